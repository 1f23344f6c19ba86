/- Each line is as its last change tells; changes of other cycles may come in any order. No program in sight. No condition. -/
import Derived.Test.YtbgcbnlpjjhmhaaLinesQ
namespace Go.Proofs.Ytbgcbnlpjjhmhaa.HeapLaw
set_option linter.unusedVariables false
theorem onN_congr (a b : Nat → Bool) : ∀ k, (∀ i, i < k → a i = b i) → onN a k = onN b k
  | 0, _ => rfl
  | k + 1, h => by unfold onN; rw [onN_congr a b k (fun i hi => h i (by omega)), h k (by omega)]
/-- What a list of changes leaves of a line: its last one's. -/
theorem fold_last (i : Nat) : ∀ (F : List Ent) (on : Nat → Bool), F.Pairwise LeE →
    ((∀ e ∈ F, e.lv.toNat ≠ i) ∧ (F.foldl updE on) i = on i) ∨ ∃ e ∈ F, e.lv.toNat = i ∧ (F.foldl updE on) i = e.on ∧ ∀ x ∈ F, x.lv.toNat = i → LeE x e
  | [], on, _ => .inl ⟨fun e h => (by cases h), rfl⟩
  | a :: F, on, h => by
    rw [List.pairwise_cons] at h
    rw [List.foldl_cons]
    rcases fold_last i F (updE on a) h.2 with ⟨h1, h2⟩ | ⟨e, he, h1, h2, h3⟩
    · by_cases ha : a.lv.toNat = i
      · refine .inr ⟨a, List.mem_cons_self, ha, ?_, fun x hx hi => ?_⟩
        · rw [h2]; unfold updE updB; rw [if_pos ha.symm]
        · rcases List.mem_cons.1 hx with rfl | hx
          · exact LeE.refl _
          · exact absurd hi (h1 x hx)
      · refine .inl ⟨fun e he => ?_, ?_⟩
        · rcases List.mem_cons.1 he with rfl | he
          · exact ha
          · exact h1 e he
        · rw [h2]; unfold updE updB; rw [if_neg (fun q => ha q.symm)]
    · refine .inr ⟨e, List.mem_cons_of_mem _ he, h1, h2, fun x hx hi => ?_⟩
      rcases List.mem_cons.1 hx with rfl | hx
      · exact h.1 e he
      · exact h3 x hx hi
/-- The law's own loop: a change of the line, not above the cycle, not ahead of the last one. -/
def stepW (i c : Int) (st : Bool × Int) (e : Int × Int × Bool) : Bool × Int := if e.2.1 = i ∧ 0 ≤ e.1 ∧ e.1 ≤ c ∧ st.2 ≤ e.1 then (e.2.2, e.1) else st
def stepA (i c : Int) (st : Bool × Int) (e : Ent) : Bool × Int := if e.lv = i ∧ 0 ≤ e.cy ∧ e.cy ≤ c ∧ st.2 ≤ e.cy then (e.on, e.cy) else st
theorem step_acc (i c : Int) (h1 : 1 ≤ i) (h2 : i ≤ 31) : ∀ (es : List (Int × Int × Bool)) (n : Int) (st : Bool × Int), (accF es n).foldl (stepA i c) st = es.foldl (stepW i c) st
  | [], _, _ => rfl
  | e :: es, n, st => by
    unfold accF
    by_cases hc : e.2.1 < 1 ∨ 31 < e.2.1 ∨ e.1 < 0
    · rw [if_pos hc, step_acc i c h1 h2 es n st, List.foldl_cons]
      congr 1
      unfold stepW
      rw [if_neg (by omega)]
    · rw [if_neg hc, List.foldl_cons, List.foldl_cons, step_acc i c h1 h2 es (n + 1)]
      rfl
def Hit (i c : Int) (e : Ent) : Prop := e.lv = i ∧ 0 ≤ e.cy ∧ e.cy ≤ c
theorem take_next' (A : List Ent) (k : Nat) (hk : k < A.length) : A.take (k + 1) = A.take k ++ [gE A k] := by
  rw [List.take_add_one, gE_lt hk]; rfl
theorem stepA_last (A : List Ent) (hA : Inc A) (i c : Int) : ∀ k, k ≤ A.length →
    ((∀ j, j < k → ¬ Hit i c (gE A j)) ∧ (A.take k).foldl (stepA i c) (false, -1) = (false, -1)) ∨ ∃ m, m < k ∧ Hit i c (gE A m) ∧ (A.take k).foldl (stepA i c) (false, -1) = ((gE A m).on, (gE A m).cy) ∧ ∀ j, j < k → Hit i c (gE A j) → LeE (gE A j) (gE A m)
  | 0, _ => .inl ⟨fun j h => absurd h (Nat.not_lt_zero _), rfl⟩
  | k + 1, hk => by
    rw [take_next' A k (by omega), List.foldl_append]
    show ((_ ∧ stepA i c _ (gE A k) = _) ∨ ∃ m, _ ∧ _ ∧ stepA i c _ (gE A k) = _ ∧ _)
    rcases stepA_last A hA i c k (by omega) with ⟨h1, h2⟩ | ⟨m, h1, h2, h3, h4⟩
    · rw [h2]
      by_cases hh : Hit i c (gE A k)
      · refine .inr ⟨k, Nat.lt_succ_self _, hh, ?_, fun j hj hi => ?_⟩
        · unfold stepA; rw [if_pos ⟨hh.1, hh.2.1, hh.2.2, by have := hh.2.1; show (-1 : Int) ≤ _; omega⟩]
        · by_cases hjk : j = k
          · rw [hjk]; exact LeE.refl _
          · exact absurd hi (h1 j (by omega))
      · refine .inl ⟨fun j hj => ?_, ?_⟩
        · by_cases hjk : j = k
          · rw [hjk]; exact hh
          · exact h1 j (by omega)
        · unfold stepA; rw [if_neg (fun q => hh ⟨q.1, q.2.1, q.2.2.1⟩)]
    · rw [h3]
      by_cases hh : Hit i c (gE A k)
      · by_cases hc : (gE A m).cy ≤ (gE A k).cy
        · refine .inr ⟨k, Nat.lt_succ_self _, hh, ?_, fun j hj hi => ?_⟩
          · unfold stepA; rw [if_pos ⟨hh.1, hh.2.1, hh.2.2, hc⟩]
          · by_cases hjk : j = k
            · rw [hjk]; exact LeE.refl _
            · refine (h4 j (by omega) hi).trans ?_
              have := hA m k h1 (by omega)
              unfold LeE; omega
        · refine .inr ⟨m, by omega, h2, ?_, fun j hj hi => ?_⟩
          · unfold stepA; rw [if_neg (fun q => hc q.2.2.2)]
          · by_cases hjk : j = k
            · rw [hjk]; unfold LeE; omega
            · exact h4 j (by omega) hi
      · refine .inr ⟨m, by omega, h2, ?_, fun j hj hi => ?_⟩
        · unfold stepA; rw [if_neg (fun q => hh ⟨q.1, q.2.1, q.2.2.1⟩)]
        · by_cases hjk : j = k
          · rw [hjk] at hi; exact absurd hi hh
          · exact h4 j (by omega) hi
theorem accF_inc : ∀ (es : List (Int × Int × Bool)) (n : Int), Inc (accF es n) ∧ ∀ e ∈ accF es n, n ≤ e.nm
  | [], n => ⟨fun i j _ h => absurd h (Nat.not_lt_zero _), fun e h => (by cases h)⟩
  | x :: es, n => by
    unfold accF
    split
    · exact accF_inc es n
    · obtain ⟨h1, h2⟩ := accF_inc es (n + 1)
      refine ⟨fun i j hij hj => ?_, fun e he => ?_⟩
      · rw [List.length_cons] at hj
        match i, j, hij with
        | 0, j + 1, _ =>
          have := h2 (gE (accF es (n + 1)) j) (gE_mem (by omega))
          show n < (gE (accF es (n + 1)) j).nm; omega
        | i + 1, j + 1, hij => exact h1 i j (by omega) (by omega)
      · rcases List.mem_cons.1 he with rfl | he
        · exact Int.le_refl _
        · have := h2 e he; omega
/-- Each line is as its last change up to the cycle tells. -/
theorem hold (es : List (Int × Int × Bool)) (c : Int) (i : Nat) (hi : i < 32) :
    (((sortE (accF es 0)).takeWhile (fun e => decide (e.cy ≤ c))).foldl updE (fun _ => false)) i = (decide (1 ≤ i) && (es.foldl (stepW i c) (false, -1)).1) := by
  have hs := sortE_sorted (accF es 0)
  have hF : ((sortE (accF es 0)).takeWhile (fun e => decide (e.cy ≤ c))).Pairwise LeE := hs.sublist (List.takeWhile_sublist _)
  have hm : ∀ e, e ∈ (sortE (accF es 0)).takeWhile (fun e => decide (e.cy ≤ c)) ↔ e ∈ accF es 0 ∧ e.cy ≤ c := fun e => by
    rw [takeWhile_due _ c hs e, (sortE_perm (accF es 0)).mem_iff]
  obtain ⟨hinc, _⟩ := accF_inc es 0
  have hpos := accF_pos es 0
  by_cases h0 : 1 ≤ i
  · rw [decide_eq_true h0, Bool.true_and, ← step_acc i c (by omega) (by omega) es 0]
    have hl := stepA_last (accF es 0) hinc i c (accF es 0).length (Nat.le_refl _)
    rw [List.take_length] at hl
    rcases fold_last i _ (fun _ => false) hF with ⟨h1, h2⟩ | ⟨e, he, h1, h2, h3⟩
    · rw [h2]
      rcases hl with ⟨k1, k2⟩ | ⟨m, k1, k2, k3, k4⟩
      · rw [k2]
      · have := h1 _ ((hm _).2 ⟨gE_mem k1, k2.2.2⟩)
        rw [k2.1] at this
        exact absurd (by omega) this
    · rw [h2]
      obtain ⟨e1, e2⟩ := (hm e).1 he
      obtain ⟨j, hj, hje⟩ := mem_gE e1
      have hp := hpos e e1
      have hit : Hit i c (gE (accF es 0) j) := by rw [hje]; exact ⟨by omega, hp.1, e2⟩
      rcases hl with ⟨k1, k2⟩ | ⟨m, k1, k2, k3, k4⟩
      · exact absurd hit (k1 j hj)
      · have l1 := k4 j hj hit
        have hp2 := hpos _ (gE_mem k1)
        have l2 := h3 _ ((hm _).2 ⟨gE_mem k1, k2.2.2⟩) (by rw [k2.1]; omega)
        rw [hje] at l1
        have hjm : j = m := by
          have hnm : (gE (accF es 0) j).nm = (gE (accF es 0) m).nm := by rw [hje]; unfold LeE at l1 l2; omega
          rcases Nat.lt_trichotomy j m with h | h | h
          · have := hinc j m h k1; omega
          · exact h
          · have := hinc m j h hj; omega
        rw [k3, ← hje, hjm]
  · have h00 : i = 0 := by omega
    subst h00
    rcases fold_last 0 _ (fun _ => false) hF with ⟨_, h2⟩ | ⟨e, he, h1, _⟩
    · rw [h2]; rfl
    · have := hpos e ((hm e).1 he).1
      omega
end Go.Proofs.Ytbgcbnlpjjhmhaa.HeapLaw
