/- Changes that come, in plain lists: the heap's least one is the document's next one. No program in sight. No condition. -/
import Derived.Test.YtbgcbnlpjjhmhaaLinesH
namespace Go.Proofs.Ytbgcbnlpjjhmhaa.HeapLaw
set_option linter.unusedVariables false
/-- The document's loop: the place of the next one, so far. -/
def nextF (now : Int) (xs : List Ent) : Nat → Int
  | 0 => -1
  | k + 1 => if (gE xs k).cy ≤ now ∧ (nextF now xs k < 0 ∨ (gE xs k).cy < (gE xs (nextF now xs k).toNat).cy) then (k : Int) else nextF now xs k
theorem nextF_spec (now : Int) (xs : List Ent) : ∀ k, k ≤ xs.length →
    (nextF now xs k = -1 ∧ ∀ j, j < k → now < (gE xs j).cy) ∨
    ∃ i : Nat, nextF now xs k = i ∧ i < k ∧ (gE xs i).cy ≤ now ∧ (∀ j, j < k → (gE xs i).cy ≤ (gE xs j).cy) ∧ ∀ j, j < i → (gE xs i).cy < (gE xs j).cy
  | 0, _ => .inl ⟨rfl, fun j hj => absurd hj (Nat.not_lt_zero _)⟩
  | k + 1, hk => by
    unfold nextF
    rcases nextF_spec now xs k (by omega) with ⟨h1, h2⟩ | ⟨i, h1, h2, h3, h4, h5⟩
    · rw [h1]
      by_cases hc : (gE xs k).cy ≤ now
      · rw [if_pos ⟨hc, .inl (by decide)⟩]
        refine .inr ⟨k, rfl, by omega, hc, fun j hj => ?_, fun j hj => ?_⟩
        · by_cases he : j = k
          · subst he; exact Int.le_refl _
          · have := h2 j (by omega); omega
        · have := h2 j hj; omega
      · rw [if_neg (fun q => hc q.1)]
        refine .inl ⟨rfl, fun j hj => ?_⟩
        by_cases he : j = k
        · subst he; omega
        · exact h2 j (by omega)
    · rw [h1, Int.toNat_natCast]
      by_cases hc : (gE xs k).cy ≤ now ∧ ((i : Int) < 0 ∨ (gE xs k).cy < (gE xs i).cy)
      · rw [if_pos hc]
        have hlt : (gE xs k).cy < (gE xs i).cy := by rcases hc.2 with h | h <;> omega
        refine .inr ⟨k, rfl, by omega, hc.1, fun j hj => ?_, fun j hj => ?_⟩
        · by_cases he : j = k
          · subst he; exact Int.le_refl _
          · have := h4 j (by omega); omega
        · have := h4 j hj; omega
      · rw [if_neg hc]
        refine .inr ⟨i, rfl, by omega, h3, fun j hj => ?_, h5⟩
        by_cases he : j = k
        · subst he; omega
        · exact h4 j (by omega)
/-- Later ones have greater numbers. -/
def Inc (xs : List Ent) : Prop := ∀ i j, i < j → j < xs.length → (gE xs i).nm < (gE xs j).nm
theorem mem_gE {xs : List Ent} {e : Ent} (h : e ∈ xs) : ∃ k, k < xs.length ∧ gE xs k = e := by
  obtain ⟨k, hk, he⟩ := List.mem_iff_getElem.1 h
  exact ⟨k, hk, by rw [← gE_elem hk]; exact he⟩
theorem gE_mem {xs : List Ent} {k : Nat} (h : k < xs.length) : gE xs k ∈ xs := by
  rw [← gE_elem h]; exact List.getElem_mem h
/-- Nothing is due: the heap's first one is not. -/
theorem next_none {q xs : List Ent} {now : Int} (hp : q.Perm xs) (hh : Heap q q.length) (hn : ¬ (0 < q.length ∧ (gE q 0).cy ≤ now)) : nextF now xs xs.length = -1 := by
  rcases nextF_spec now xs xs.length (Nat.le_refl _) with ⟨h1, _⟩ | ⟨i, h1, h2, h3, _, _⟩
  · exact h1
  · refine absurd ?_ hn
    have hm := hp.mem_iff.2 (gE_mem h2)
    obtain ⟨k, hk, he⟩ := mem_gE hm
    have hl := hh.least k hk
    rw [he] at hl
    refine ⟨by omega, ?_⟩
    unfold LeE at hl; omega
theorem erase_perm : ∀ (xs : List Ent) (i : Nat), i < xs.length → xs.Perm (gE xs i :: xs.eraseIdx i)
  | [], _, h => absurd h (Nat.not_lt_zero _)
  | _ :: _, 0, _ => List.Perm.refl _
  | x :: xs, i + 1, h => ((erase_perm xs i (by simpa using h)).cons x).trans (List.Perm.swap _ _ _)
/-- Something is: it is the heap's first one. -/
theorem next_some {q xs : List Ent} {now : Int} (hp : q.Perm xs) (hh : Heap q q.length) (hi : Inc xs) (h0 : 0 < q.length) (hn : (gE q 0).cy ≤ now) :
    ∃ i : Nat, nextF now xs xs.length = i ∧ i < xs.length ∧ gE xs i = gE q 0 ∧ (restL q).Perm (xs.eraseIdx i) := by
  obtain ⟨k, hk, he⟩ := mem_gE (hp.mem_iff.1 (gE_mem h0))
  have key : ∀ j, j < xs.length → LeE (gE q 0) (gE xs j) := by
    intro j hj
    obtain ⟨m, hm, hme⟩ := mem_gE (hp.mem_iff.2 (gE_mem hj))
    rw [← hme]
    exact hh.least m hm
  have main : ∃ i : Nat, nextF now xs xs.length = i ∧ i < xs.length ∧ gE xs i = gE q 0 := by
    rcases nextF_spec now xs xs.length (Nat.le_refl _) with ⟨_, h2⟩ | ⟨i, h1, h2, h3, h4, h5⟩
    · have := h2 k hk
      rw [he] at this
      omega
    · refine ⟨i, h1, h2, ?_⟩
      have l1 := key i h2
      have l2 := h4 k hk
      rw [he] at l2
      have hik : i = k := by
        rcases Nat.lt_trichotomy i k with h | h | h
        · have := hi i k h hk
          rw [he] at this
          unfold LeE at l1
          omega
        · exact h
        · have := h5 k h
          rw [he] at this
          unfold LeE at l1
          omega
      rw [hik]; exact he
  obtain ⟨i, h1, h2, h3⟩ := main
  refine ⟨i, h1, h2, h3, ?_⟩
  have p1 := (restL_spec q hh h0).2.1
  have p2 : xs.Perm (gE xs i :: xs.eraseIdx i) := by
    exact erase_perm xs i h2
  rw [h3] at p2
  exact (List.perm_cons _).1 (p1.symm.trans (hp.trans p2))
theorem gE_erase (xs : List Ent) (i k : Nat) : gE (xs.eraseIdx i) k = if k < i then gE xs k else gE xs (k + 1) := by
  unfold gE
  rw [List.getD_eq_getElem?_getD, List.getElem?_eraseIdx, List.getD_eq_getElem?_getD, List.getD_eq_getElem?_getD]
  split <;> rfl
theorem Inc.erase {xs : List Ent} (h : Inc xs) (i : Nat) (hi : i < xs.length) : Inc (xs.eraseIdx i) := by
  intro a b hab hb
  rw [List.length_eraseIdx_of_lt hi] at hb
  rw [gE_erase, gE_erase]
  by_cases h1 : a < i
  · rw [if_pos h1]
    by_cases h2 : b < i
    · rw [if_pos h2]; exact h a b hab (by omega)
    · rw [if_neg h2]; exact h a (b + 1) (by omega) (by omega)
  · rw [if_neg h1, if_neg (by omega)]
    exact h (a + 1) (b + 1) (by omega) (by omega)
theorem Inc.snoc {xs : List Ent} (h : Inc xs) (e : Ent) (he : ∀ j, j < xs.length → (gE xs j).nm < e.nm) : Inc (xs ++ [e]) := by
  intro a b hab hb
  rw [List.length_append, List.length_singleton] at hb
  rw [gE_app _ _ _ (by omega)]
  by_cases h2 : b < xs.length
  · rw [gE_app _ _ _ h2]; exact h a b hab h2
  · obtain rfl : b = xs.length := by omega
    have : gE (xs ++ [e]) xs.length = e := by unfold gE; simp
    rw [this]
    exact he a (by omega)
/-- Which lines are on, as a number. -/
def onN (on : Nat → Bool) : Nat → Nat
  | 0 => 0
  | k + 1 => onN on k + (if on k then 2 ^ k else 0)
def updB (on : Nat → Bool) (lv : Nat) (b : Bool) : Nat → Bool := fun i => if i = lv then b else on i
theorem onN_lt (on : Nat → Bool) : ∀ k, onN on k < 2 ^ k
  | 0 => by simp [onN]
  | k + 1 => by
    have := onN_lt on k
    unfold onN
    rw [Nat.pow_succ]
    split <;> omega
theorem onN_bit (on : Nat → Bool) : ∀ k i, (onN on k).testBit i = (decide (i < k) && on i)
  | 0, i => by simp [onN]
  | k + 1, i => by
    have hl := onN_lt on k
    have ih := onN_bit on k
    unfold onN
    by_cases hb : on k = true
    · rw [if_pos hb]
      by_cases hik : i = k
      · subst hik
        rw [Nat.add_comm, Nat.testBit_two_pow_add_eq, ih]
        simp [hb]
      · by_cases hlt : i < k
        · rw [Nat.add_comm, Nat.testBit_two_pow_add_gt hlt, ih]
          have h2 : i < k + 1 := by omega
          simp [hlt, h2]
        · have h2 : k + 1 ≤ i := by omega
          rw [Nat.testBit_lt_two_pow (by
            have : 2 ^ (k + 1) ≤ 2 ^ i := Nat.pow_le_pow_right (by decide) h2
            rw [Nat.pow_succ] at this
            omega)]
          have h3 : ¬ i < k + 1 := by omega
          simp [h3]
    · rw [if_neg hb, Nat.add_zero, ih]
      by_cases hik : i = k
      · subst hik; simp [hb]
      · have : (i < k + 1) ↔ (i < k) := by omega
        simp [this]
/-- Made one after the other. -/
def popF : Nat → Int → List Ent → (Nat → Bool) → List Ent × (Nat → Bool)
  | 0, _, xs, on => (xs, on)
  | f + 1, now, xs, on => if nextF now xs xs.length < 0 then (xs, on) else
      popF f now (xs.eraseIdx (nextF now xs xs.length).toNat) (updB on (gE xs (nextF now xs xs.length).toNat).lv.toNat (gE xs (nextF now xs xs.length).toNat).on)
theorem popF_none {f : Nat} {now : Int} {xs : List Ent} {on : Nat → Bool} (h : nextF now xs xs.length < 0) : popF f now xs on = (xs, on) := by
  cases f with
  | zero => rfl
  | succ f => unfold popF; rw [if_pos h]
theorem popF_some {f : Nat} {now : Int} {xs : List Ent} {on : Nat → Bool} {i : Nat} (h : nextF now xs xs.length = i) : popF (f + 1) now xs on = popF f now (xs.eraseIdx i) (updB on (gE xs i).lv.toNat (gE xs i).on) := by
  conv => lhs; unfold popF
  rw [h, if_neg (by omega), Int.toNat_natCast]
/-- Lines: what comes, the cycle, what is on, how many were added. -/
structure St where
  xs : List Ent
  now : Int
  on : Nat → Bool
  nums : Int
def St.new : St := ⟨[], 0, fun _ => false, 0⟩
/-- What Add answers. -/
def addE (s : St) (cy lv : Int) : Int := if lv < 1 ∨ 31 < lv then 1 else if cy < s.now then 7 else if s.xs.length = 4096 then 3 else 0
def addS (s : St) (cy lv : Int) (on : Bool) : St := if lv < 1 ∨ 31 < lv then s else if cy < s.now then s else if s.xs.length = 4096 then s else ⟨s.xs ++ [⟨cy, lv, on, s.nums⟩], s.now, s.on, s.nums + 1⟩
def nowS (s : St) (c : Int) : Int := if s.now < c then c else s.now
def atS (s : St) (c : Int) : St := ⟨(popF s.xs.length (nowS s c) s.xs s.on).1, nowS s c, (popF s.xs.length (nowS s c) s.xs s.on).2, s.nums⟩
/-- Numbers grow, and are below what comes next; levels are lines. -/
structure GoodS (s : St) : Prop where
  inc : Inc s.xs
  nums : ∀ j, j < s.xs.length → (gE s.xs j).nm < s.nums
  lv : ∀ j, j < s.xs.length → 1 ≤ (gE s.xs j).lv ∧ (gE s.xs j).lv ≤ 31
  len : s.xs.length ≤ 4096
theorem GoodS.new : GoodS St.new := ⟨fun i j _ h => absurd h (Nat.not_lt_zero _), fun j h => absurd h (Nat.not_lt_zero _), fun j h => absurd h (Nat.not_lt_zero _), Nat.zero_le _⟩
theorem GoodS.add {s : St} (h : GoodS s) (cy lv : Int) (on : Bool) : GoodS (addS s cy lv on) := by
  unfold addS
  split
  · exact h
  · split
    · exact h
    · split
      · exact h
      · have hg : gE (s.xs ++ [⟨cy, lv, on, s.nums⟩]) s.xs.length = ⟨cy, lv, on, s.nums⟩ := by unfold gE; simp
        refine ⟨h.inc.snoc _ h.nums, fun j hj => ?_, fun j hj => ?_, by have := h.len; rw [List.length_append, List.length_singleton]; omega⟩
        · rw [List.length_append, List.length_singleton] at hj
          show (gE (s.xs ++ [⟨cy, lv, on, s.nums⟩]) j).nm < s.nums + 1
          by_cases h2 : j < s.xs.length
          · rw [gE_app _ _ _ h2]; have := h.nums j h2; omega
          · obtain rfl : j = s.xs.length := by omega
            rw [hg]; show s.nums < s.nums + 1; omega
        · rw [List.length_append, List.length_singleton] at hj
          show 1 ≤ (gE (s.xs ++ [⟨cy, lv, on, s.nums⟩]) j).lv ∧ _
          by_cases h2 : j < s.xs.length
          · rw [gE_app _ _ _ h2]; exact h.lv j h2
          · obtain rfl : j = s.xs.length := by omega
            rw [hg]; show 1 ≤ lv ∧ lv ≤ 31; omega
theorem GoodS.erase {s : St} (h : GoodS s) (i : Nat) (hi : i < s.xs.length) (on : Nat → Bool) : GoodS ⟨s.xs.eraseIdx i, s.now, on, s.nums⟩ := by
  refine ⟨h.inc.erase i hi, fun j hj => ?_, fun j hj => ?_, by have := h.len; show (s.xs.eraseIdx i).length ≤ _; rw [List.length_eraseIdx_of_lt hi]; omega⟩
  · have hj : j < (s.xs.eraseIdx i).length := hj
    rw [List.length_eraseIdx_of_lt hi] at hj
    show (gE (s.xs.eraseIdx i) j).nm < s.nums
    rw [gE_erase]; split
    · exact h.nums j (by omega)
    · exact h.nums (j + 1) (by omega)
  · have hj : j < (s.xs.eraseIdx i).length := hj
    rw [List.length_eraseIdx_of_lt hi] at hj
    show 1 ≤ (gE (s.xs.eraseIdx i) j).lv ∧ _
    rw [gE_erase]; split
    · exact h.lv j (by omega)
    · exact h.lv (j + 1) (by omega)
theorem GoodS.now {s : St} (h : GoodS s) (c : Int) : GoodS ⟨s.xs, c, s.on, s.nums⟩ := ⟨h.inc, h.nums, h.lv, h.len⟩
theorem GoodS.pop : ∀ (f : Nat) (now : Int) (s : St), GoodS s → GoodS ⟨(popF f now s.xs s.on).1, now, (popF f now s.xs s.on).2, s.nums⟩
  | 0, now, s, h => h.now now
  | f + 1, now, s, h => by
    rcases nextF_spec now s.xs s.xs.length (Nat.le_refl _) with ⟨h1, _⟩ | ⟨i, h1, h2, _⟩
    · rw [popF_none (by omega)]; exact h.now now
    · rw [popF_some h1]
      exact GoodS.pop f now ⟨s.xs.eraseIdx i, s.now, _, s.nums⟩ (h.erase i h2 _)
theorem GoodS.at {s : St} (h : GoodS s) (c : Int) : GoodS (atS s c) := GoodS.pop _ _ s h
end Go.Proofs.Ytbgcbnlpjjhmhaa.HeapLaw
