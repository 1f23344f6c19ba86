/- Changes made one after the other are made in order: sorted ones. No program in sight. No condition. -/
import Derived.Test.YtbgcbnlpjjhmhaaLinesP
namespace Go.Proofs.Ytbgcbnlpjjhmhaa.HeapLaw
set_option linter.unusedVariables false
/-- The least one is next. -/
theorem next_least {xs : List Ent} {now : Int} {e : Ent} (hi : Inc xs) (hm : e ∈ xs) (hl : ∀ x ∈ xs, LeE e x) (hc : e.cy ≤ now) :
    ∃ i : Nat, nextF now xs xs.length = i ∧ i < xs.length ∧ gE xs i = e := by
  obtain ⟨k, hk, he⟩ := mem_gE hm
  rcases nextF_spec now xs xs.length (Nat.le_refl _) with ⟨_, h2⟩ | ⟨i, h1, h2, h3, h4, h5⟩
  · have := h2 k hk
    rw [he] at this
    omega
  · refine ⟨i, h1, h2, ?_⟩
    have l1 := hl _ (gE_mem h2)
    have l2 := h4 k hk
    rw [he] at l2
    have hik : i = k := by
      rcases Nat.lt_trichotomy i k with h | h | h
      · have := hi i k h hk
        rw [he] at this
        unfold LeE at l1
        omega
      · exact h
      · have := h5 k h
        rw [he] at this
        unfold LeE at l1
        omega
    rw [hik]; exact he
theorem next_late {xs : List Ent} {now : Int} (h : ∀ x ∈ xs, now < x.cy) : nextF now xs xs.length = -1 := by
  rcases nextF_spec now xs xs.length (Nat.le_refl _) with ⟨h1, _⟩ | ⟨i, h1, h2, h3, _⟩
  · exact h1
  · have := h _ (gE_mem h2); omega
def updE (on : Nat → Bool) (e : Ent) : Nat → Bool := updB on e.lv.toNat e.on
/-- All that are due are made, in order. -/
theorem popF_sorted : ∀ (f : Nat) (now : Int) (B xs : List Ent) (on : Nat → Bool), xs.length ≤ f → xs.Perm B → B.Pairwise LeE → Inc xs →
    (popF f now xs on).2 = (B.takeWhile (fun e => decide (e.cy ≤ now))).foldl updE on ∧ (popF f now xs on).1.Perm (B.dropWhile (fun e => decide (e.cy ≤ now))) ∧ Inc (popF f now xs on).1
  | f, now, [], xs, on, hf, hp, hs, hi => by
    obtain rfl := hp.eq_nil
    have : popF f now [] on = ([], on) := popF_none (by show (-1 : Int) < 0; decide)
    rw [this]
    exact ⟨rfl, List.Perm.refl _, hi⟩
  | 0, now, e :: B, xs, on, hf, hp, hs, hi => by
    have := hp.length_eq
    rw [List.length_cons] at this
    omega
  | f + 1, now, e :: B, xs, on, hf, hp, hs, hi => by
    have hm : e ∈ xs := hp.mem_iff.2 List.mem_cons_self
    have hl : ∀ x ∈ xs, LeE e x := by
      intro x hx
      rcases List.mem_cons.1 (hp.mem_iff.1 hx) with rfl | h
      · exact LeE.refl _
      · exact (List.pairwise_cons.1 hs).1 x h
    by_cases hc : e.cy ≤ now
    · obtain ⟨i, h1, h2, h3⟩ := next_least hi hm hl hc
      rw [popF_some h1, List.takeWhile_cons, if_pos (by simpa using hc), List.dropWhile_cons, if_pos (by simpa using hc), List.foldl_cons]
      have hp2 : (xs.eraseIdx i).Perm B := by
        have := erase_perm xs i h2
        rw [h3] at this
        exact (List.perm_cons _).1 (this.symm.trans hp)
      have := popF_sorted f now B (xs.eraseIdx i) (updE on e) (by rw [List.length_eraseIdx_of_lt h2]; omega) hp2 (List.pairwise_cons.1 hs).2 (hi.erase i h2)
      rw [h3]
      exact this
    · have hn : nextF now xs xs.length = -1 := next_late (fun x hx => by
        have := hl x hx
        unfold LeE at this
        omega)
      rw [popF_none (by omega), List.takeWhile_cons, if_neg (by simpa using hc), List.dropWhile_cons, if_neg (by simpa using hc)]
      exact ⟨rfl, hp, hi⟩
/-- Sorted by putting each in its place. -/
def insE (e : Ent) : List Ent → List Ent
  | [] => [e]
  | b :: B => if ltE b e = true then b :: insE e B else e :: b :: B
theorem insE_perm (e : Ent) : ∀ B, (insE e B).Perm (e :: B)
  | [] => List.Perm.refl _
  | b :: B => by
    unfold insE
    split
    · exact ((insE_perm e B).cons b).trans (List.Perm.swap _ _ _)
    · exact List.Perm.refl _
theorem insE_sorted (e : Ent) : ∀ B : List Ent, B.Pairwise LeE → (insE e B).Pairwise LeE
  | [], _ => by simp [insE]
  | b :: B, h => by
    unfold insE
    rw [List.pairwise_cons] at h
    split
    · rename_i hl
      rw [List.pairwise_cons]
      refine ⟨fun x hx => ?_, insE_sorted e B h.2⟩
      rcases List.mem_cons.1 ((insE_perm e B).mem_iff.1 hx) with rfl | hx
      · exact le_of_lt hl
      · exact h.1 x hx
    · rename_i hl
      have hle := le_of_not (Bool.eq_false_iff.2 hl)
      rw [List.pairwise_cons]
      refine ⟨fun x hx => ?_, List.pairwise_cons.2 h⟩
      rcases List.mem_cons.1 hx with rfl | hx
      · exact hle
      · exact hle.trans (h.1 x hx)
def sortE : List Ent → List Ent
  | [] => []
  | e :: xs => insE e (sortE xs)
theorem sortE_perm : ∀ xs, (sortE xs).Perm xs
  | [] => List.Perm.refl _
  | e :: xs => (insE_perm e _).trans ((sortE_perm xs).cons e)
theorem sortE_sorted : ∀ xs, (sortE xs).Pairwise LeE
  | [] => List.Pairwise.nil
  | e :: xs => insE_sorted e _ (sortE_sorted xs)
theorem takeWhile_due : ∀ (B : List Ent) (c : Int), B.Pairwise LeE → ∀ e, e ∈ B.takeWhile (fun e => decide (e.cy ≤ c)) ↔ e ∈ B ∧ e.cy ≤ c
  | [], c, _, e => by simp
  | b :: B, c, h, e => by
    rw [List.pairwise_cons] at h
    rw [List.takeWhile_cons]
    by_cases hb : b.cy ≤ c
    · rw [if_pos (by simpa using hb), List.mem_cons, List.mem_cons, takeWhile_due B c h.2 e]
      constructor
      · rintro (rfl | ⟨h1, h2⟩)
        · exact ⟨.inl rfl, hb⟩
        · exact ⟨.inr h1, h2⟩
      · rintro ⟨rfl | h1, h2⟩
        · exact .inl rfl
        · exact .inr ⟨h1, h2⟩
    · rw [if_neg (by simpa using hb), List.mem_cons]
      constructor
      · intro q; cases q
      · rintro ⟨rfl | h1, h2⟩
        · exact absurd h2 hb
        · have := h.1 e h1
          unfold LeE at this
          omega
theorem dropWhile_due : ∀ (B : List Ent) (c : Int), B.Pairwise LeE → ∀ e, e ∈ B.dropWhile (fun e => decide (e.cy ≤ c)) ↔ e ∈ B ∧ c < e.cy
  | [], c, _, e => by simp
  | b :: B, c, h, e => by
    rw [List.pairwise_cons] at h
    rw [List.dropWhile_cons]
    by_cases hb : b.cy ≤ c
    · rw [if_pos (by simpa using hb), List.mem_cons, dropWhile_due B c h.2 e]
      constructor
      · rintro ⟨h1, h2⟩; exact ⟨.inr h1, h2⟩
      · rintro ⟨rfl | h1, h2⟩
        · omega
        · exact ⟨h1, h2⟩
    · rw [if_neg (by simpa using hb)]
      constructor
      · intro q
        refine ⟨q, ?_⟩
        rcases List.mem_cons.1 q with rfl | h1
        · omega
        · have := h.1 e h1
          unfold LeE at this
          omega
      · exact fun q => q.1
/-- Made in order up to a cycle, and then up to a later one: made up to the later one. -/
theorem take_take_due (B : List Ent) (c d : Int) (h : c ≤ d) : B.takeWhile (fun e => decide (e.cy ≤ c)) ++ (B.dropWhile (fun e => decide (e.cy ≤ c))).takeWhile (fun e => decide (e.cy ≤ d)) = B.takeWhile (fun e => decide (e.cy ≤ d)) := by
  induction B with
  | nil => rfl
  | cons b B ih =>
    by_cases hb : b.cy ≤ c
    · rw [List.takeWhile_cons, if_pos (by simpa using hb), List.dropWhile_cons, if_pos (by simpa using hb), List.takeWhile_cons (p := fun e : Ent => decide (e.cy ≤ d)), if_pos (by simp; omega), List.cons_append, ih]
    · rw [List.takeWhile_cons, if_neg (by simpa using hb), List.dropWhile_cons, if_neg (by simpa using hb), List.nil_append]
theorem drop_drop_due (B : List Ent) (c d : Int) (h : c ≤ d) : (B.dropWhile (fun e => decide (e.cy ≤ c))).dropWhile (fun e => decide (e.cy ≤ d)) = B.dropWhile (fun e => decide (e.cy ≤ d)) := by
  induction B with
  | nil => rfl
  | cons b B ih =>
    by_cases hb : b.cy ≤ c
    · rw [List.dropWhile_cons, if_pos (by simpa using hb), ih, List.dropWhile_cons, if_pos (by simp; omega)]
    · rw [List.dropWhile_cons, if_neg (by simpa using hb)]
/-- A state of which the changes made are those of B up to a cycle, in order. -/
structure From (B : List Ent) (s : St) (u : Int) : Prop where
  xs : s.xs.Perm (B.dropWhile (fun e => decide (e.cy ≤ u)))
  on : s.on = (B.takeWhile (fun e => decide (e.cy ≤ u))).foldl updE (fun _ => false)
  inc : Inc s.xs
  le : u ≤ s.now
theorem From.at {B : List Ent} {s : St} {u : Int} (h : From B s u) (hB : B.Pairwise LeE) (c : Int) : From B (atS s c) (nowS s c) := by
  have hle : u ≤ nowS s c := by have := h.le; unfold nowS; split <;> omega
  have hs : (B.dropWhile (fun e => decide (e.cy ≤ u))).Pairwise LeE := hB.sublist (List.dropWhile_sublist _)
  have r := popF_sorted s.xs.length (nowS s c) _ s.xs s.on (Nat.le_refl _) h.xs hs h.inc
  rw [drop_drop_due _ _ _ hle, h.on, ← List.foldl_append, take_take_due _ _ _ hle] at r
  rw [← h.on] at r
  exact ⟨r.2.1, r.1, r.2.2, Int.le_refl _⟩
theorem From.len {B : List Ent} {s : St} {u : Int} (h : From B s u) : s.xs.length = (B.dropWhile (fun e => decide (e.cy ≤ u))).length := h.xs.length_eq
/-- Those that are taken, by their numbers. -/
def accF : List (Int × Int × Bool) → Int → List Ent
  | [], _ => []
  | e :: es, n => if e.2.1 < 1 ∨ 31 < e.2.1 ∨ e.1 < 0 then accF es n else ⟨e.1, e.2.1, e.2.2, n⟩ :: accF es (n + 1)
def addAll (s : St) (es : List (Int × Int × Bool)) : St := es.foldl (fun s e => addS s e.1 e.2.1 e.2.2) s
theorem addAll_new : ∀ (es : List (Int × Int × Bool)) (s : St), s.now = 0 → s.xs.length + es.length ≤ 4096 → ∃ n, addAll s es = ⟨s.xs ++ accF es s.nums, 0, s.on, n⟩
  | [], s, h0, hl => ⟨s.nums, by cases s; simp only at h0; subst h0; simp [addAll, accF]⟩
  | e :: es, s, h0, hl => by
    rw [List.length_cons] at hl
    show ∃ n, addAll (addS s e.1 e.2.1 e.2.2) es = _
    unfold accF
    by_cases hc : e.2.1 < 1 ∨ 31 < e.2.1 ∨ e.1 < 0
    · have e1 : addS s e.1 e.2.1 e.2.2 = s := by
        unfold addS
        rcases hc with h | h | h
        · rw [if_pos (.inl h)]
        · rw [if_pos (.inr h)]
        · split
          · rfl
          · rw [if_pos (by omega)]
      rw [e1, if_pos hc]
      exact addAll_new es s h0 (by omega)
    · have e1 : addS s e.1 e.2.1 e.2.2 = ⟨s.xs ++ [⟨e.1, e.2.1, e.2.2, s.nums⟩], s.now, s.on, s.nums + 1⟩ := by
        unfold addS
        rw [if_neg (fun q => hc (q.elim .inl (fun r => .inr (.inl r)))), if_neg (fun q => hc (.inr (.inr (by omega)))), if_neg (by omega)]
      rw [e1, if_neg hc]
      obtain ⟨n, hn⟩ := addAll_new es ⟨s.xs ++ [⟨e.1, e.2.1, e.2.2, s.nums⟩], s.now, s.on, s.nums + 1⟩ h0 (by show (s.xs ++ [_]).length + _ ≤ _; rw [List.length_append, List.length_singleton]; omega)
      exact ⟨n, by rw [hn]; simp⟩
theorem accF_pos : ∀ (es : List (Int × Int × Bool)) (n : Int) (e : Ent), e ∈ accF es n → 0 ≤ e.cy ∧ 1 ≤ e.lv ∧ e.lv ≤ 31
  | [], _, _, h => by cases h
  | x :: es, n, e, h => by
    unfold accF at h
    split at h
    · exact accF_pos es n e h
    · rename_i hc
      rcases List.mem_cons.1 h with rfl | h
      · exact ⟨by show 0 ≤ x.1; omega, by show 1 ≤ x.2.1; omega, by show x.2.1 ≤ 31; omega⟩
      · exact accF_pos es _ e h
theorem takeWhile_none : ∀ B : List Ent, (∀ e ∈ B, 0 ≤ e.cy) → ∀ c : Int, c < 0 → B.takeWhile (fun e => decide (e.cy ≤ c)) = [] ∧ B.dropWhile (fun e => decide (e.cy ≤ c)) = B
  | [], _, _, _ => ⟨rfl, rfl⟩
  | b :: B, h, c, hc => by
    have := h b List.mem_cons_self
    rw [List.takeWhile_cons, if_neg (by simp; omega), List.dropWhile_cons, if_neg (by simp; omega)]
    exact ⟨rfl, rfl⟩
end Go.Proofs.Ytbgcbnlpjjhmhaa.HeapLaw
