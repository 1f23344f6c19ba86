/- Heaps of changes, in plain lists: what goes up, what goes down, what is least. No program in sight. No condition. -/
import Derived.WalkKit
namespace Go.Proofs.Ytbgcbnlpjjhmhaa.HeapLaw
/-- A change, and which one it is. -/
structure Ent where
  cy : Int
  lv : Int
  on : Bool
  nm : Int
def nilE : Ent := ⟨0, 0, false, 0⟩
def gE (q : List Ent) (k : Nat) : Ent := q.getD k nilE
def ltE (a b : Ent) : Bool := decide (a.cy < b.cy ∨ (a.cy = b.cy ∧ a.nm < b.nm))
def LeE (a b : Ent) : Prop := a.cy < b.cy ∨ (a.cy = b.cy ∧ a.nm ≤ b.nm)
theorem LeE.refl (a : Ent) : LeE a a := .inr ⟨rfl, Int.le_refl _⟩
theorem LeE.trans {a b c : Ent} (h : LeE a b) (k : LeE b c) : LeE a c := by unfold LeE at *; omega
theorem le_of_lt {a b : Ent} (h : ltE a b = true) : LeE a b := by
  have := of_decide_eq_true h
  unfold LeE; omega
theorem le_of_not {a b : Ent} (h : ltE a b = false) : LeE b a := by
  have := of_decide_eq_false h
  unfold LeE; omega
theorem gE_lt {q : List Ent} {k : Nat} (h : k < q.length) : q[k]? = some (gE q k) := by
  unfold gE
  rw [List.getD_eq_getElem?_getD, List.getElem?_eq_getElem h]; rfl
theorem gE_elem {q : List Ent} {k : Nat} (h : k < q.length) : q[k] = gE q k := by
  have := gE_lt h
  rw [List.getElem?_eq_getElem h] at this
  exact Option.some.inj this
theorem gE_set (q : List Ent) (i k : Nat) (e : Ent) (h : i < q.length) : gE (q.set i e) k = if i = k then e else gE q k := by
  unfold gE
  rw [List.getD_eq_getElem?_getD, List.getD_eq_getElem?_getD, List.getElem?_set]
  by_cases hk : i = k
  · subst hk; rw [if_pos rfl, if_pos rfl, if_pos h]; rfl
  · rw [if_neg hk, if_neg hk]
def swapL (q : List Ent) (i j : Nat) : List Ent := (q.set i (gE q j)).set j (gE q i)
theorem swapL_length (q : List Ent) (i j : Nat) : (swapL q i j).length = q.length := by
  unfold swapL; rw [List.length_set, List.length_set]
theorem gE_swap (q : List Ent) (i j k : Nat) (hi : i < q.length) (hj : j < q.length) : gE (swapL q i j) k = if j = k then gE q i else if i = k then gE q j else gE q k := by
  unfold swapL
  rw [gE_set _ _ _ _ (by rw [List.length_set]; exact hj), gE_set _ _ _ _ hi]
theorem swapL_perm (q : List Ent) (i j : Nat) (hi : i < q.length) (hj : j < q.length) : (swapL q i j).Perm q := by
  unfold swapL
  rw [← gE_elem hi, ← gE_elem hj]
  exact List.set_set_perm hi hj
/-- Each one is not ahead of the one above it. -/
def Heap (q : List Ent) (n : Nat) : Prop := ∀ k, 0 < k → k < n → LeE (gE q ((k - 1) / 2)) (gE q k)
theorem Heap.least {q : List Ent} {n : Nat} (h : Heap q n) : ∀ k, k < n → LeE (gE q 0) (gE q k) := by
  intro k
  induction k using Nat.strongRecOn with
  | _ k ih =>
    intro hk
    by_cases h0 : k = 0
    · subst h0; exact LeE.refl _
    · exact (ih ((k - 1) / 2) (by omega) (by omega)).trans (h k (by omega) hk)
/-- Go's up. -/
def upL : Nat → List Ent → Nat → List Ent
  | 0, q, _ => q
  | f + 1, q, j => if j = 0 then q else if ltE (gE q j) (gE q ((j - 1) / 2)) = true then upL f (swapL q ((j - 1) / 2) j) ((j - 1) / 2) else q
theorem upL_length : ∀ (f : Nat) (q : List Ent) (j : Nat), (upL f q j).length = q.length
  | 0, _, _ => rfl
  | f + 1, q, j => by
    unfold upL
    split
    · rfl
    · split
      · rw [upL_length f, swapL_length]
      · rfl
theorem upL_spec : ∀ (f : Nat) (q : List Ent) (j : Nat), j ≤ f → j < q.length →
    (∀ k, 0 < k → k < q.length → k ≠ j → LeE (gE q ((k - 1) / 2)) (gE q k)) →
    (∀ k, 0 < k → k < q.length → (k - 1) / 2 = j → 0 < j → LeE (gE q ((j - 1) / 2)) (gE q k)) →
    Heap (upL f q j) q.length ∧ (upL f q j).Perm q
  | 0, q, j, hf, hj, h1, _ => ⟨fun k h0 hk => h1 k h0 hk (by omega), List.Perm.refl _⟩
  | f + 1, q, j, hf, hj, h1, h2 => by
    unfold upL
    by_cases h0 : j = 0
    · rw [if_pos h0]
      exact ⟨fun k hk0 hk => h1 k hk0 hk (by omega), List.Perm.refl _⟩
    · rw [if_neg h0]
      by_cases hl : ltE (gE q j) (gE q ((j - 1) / 2)) = true
      · rw [if_pos hl]
        have hle := le_of_lt hl
        generalize hi : (j - 1) / 2 = i at *
        have hij : i < j := by omega
        have hi' : i < q.length := by omega
        have hg : ∀ k, gE (swapL q i j) k = if j = k then gE q i else if i = k then gE q j else gE q k := fun k => gE_swap q i j k hi' hj
        have r := upL_spec f (swapL q i j) i (by omega) (by rw [swapL_length]; exact hi') ?_ ?_
        · rw [swapL_length] at r
          exact ⟨r.1, r.2.trans (swapL_perm q i j hi' hj)⟩
        · intro k hk0 hk hki
          rw [swapL_length] at hk
          rw [hg, hg]
          by_cases hkj : j = k
          · subst hkj
            rw [if_pos rfl, hi, if_neg (by omega), if_pos rfl]
            exact hle
          · rw [if_neg hkj, if_neg (show ¬ i = k from fun e => hki e.symm)]
            by_cases hp : j = (k - 1) / 2
            · rw [if_pos hp]
              exact h2 k hk0 hk hp.symm (by omega)
            · rw [if_neg hp]
              by_cases hp2 : i = (k - 1) / 2
              · rw [if_pos hp2]
                refine hle.trans ?_
                rw [hp2]
                exact h1 k hk0 hk (fun e => hkj e.symm)
              · rw [if_neg hp2]
                exact h1 k hk0 hk (fun e => hkj e.symm)
        · intro k hk0 hk hpi hi0
          rw [swapL_length] at hk
          rw [hg, hg, if_neg (by omega), if_neg (by omega)]
          have hpi' := h1 i hi0 hi' (by omega)
          by_cases hkj : j = k
          · rw [if_pos hkj]; exact hpi'
          · rw [if_neg hkj, if_neg (by omega)]
            refine hpi'.trans ?_
            have := h1 k hk0 hk (fun e => hkj e.symm)
            rw [hpi] at this
            exact this
      · rw [if_neg hl]
        refine ⟨fun k hk0 hk => ?_, List.Perm.refl _⟩
        by_cases hkj : k = j
        · subst hkj
          exact le_of_not (Bool.eq_false_iff.2 hl)
        · exact h1 k hk0 hk hkj
/-- Which of the two below is less. -/
def kidL (q : List Ent) (i n : Nat) : Nat := if 2 * i + 2 < n ∧ ltE (gE q (2 * i + 2)) (gE q (2 * i + 1)) = true then 2 * i + 2 else 2 * i + 1
/-- Go's down. -/
def downL : Nat → List Ent → Nat → Nat → List Ent
  | 0, q, _, _ => q
  | f + 1, q, i, n => if n ≤ 2 * i + 1 then q else if ltE (gE q (kidL q i n)) (gE q i) = true then downL f (swapL q i (kidL q i n)) (kidL q i n) n else q
theorem downL_length : ∀ (f : Nat) (q : List Ent) (i n : Nat), (downL f q i n).length = q.length
  | 0, _, _, _ => rfl
  | f + 1, q, i, n => by
    unfold downL
    split
    · rfl
    · split
      · rw [downL_length f, swapL_length]
      · rfl
theorem kidL_spec (q : List Ent) (i n : Nat) (h : 2 * i + 1 < n) : kidL q i n < n ∧ i < kidL q i n ∧ (kidL q i n - 1) / 2 = i ∧ ∀ k, 0 < k → k < n → (k - 1) / 2 = i → LeE (gE q (kidL q i n)) (gE q k) := by
  unfold kidL
  by_cases hc : 2 * i + 2 < n ∧ ltE (gE q (2 * i + 2)) (gE q (2 * i + 1)) = true
  · rw [if_pos hc]
    refine ⟨hc.1, by omega, by omega, fun k h0 hk hp => ?_⟩
    by_cases he : k = 2 * i + 2
    · subst he; exact LeE.refl _
    · obtain rfl : k = 2 * i + 1 := by omega
      exact le_of_lt hc.2
  · rw [if_neg hc]
    refine ⟨h, by omega, by omega, fun k h0 hk hp => ?_⟩
    by_cases he : k = 2 * i + 1
    · subst he; exact LeE.refl _
    · obtain rfl : k = 2 * i + 2 := by omega
      exact le_of_not (Bool.eq_false_iff.2 fun q' => hc ⟨hk, q'⟩)
theorem downL_spec : ∀ (f : Nat) (q : List Ent) (i n : Nat), n ≤ f + i → n ≤ q.length → i < q.length →
    (∀ k, 0 < k → k < n → (k - 1) / 2 ≠ i → LeE (gE q ((k - 1) / 2)) (gE q k)) →
    (∀ k, 0 < k → k < n → (k - 1) / 2 = i → 0 < i → LeE (gE q ((i - 1) / 2)) (gE q k)) →
    Heap (downL f q i n) n ∧ (downL f q i n).Perm q ∧ ∀ k, n ≤ k → i < n → gE (downL f q i n) k = gE q k
  | 0, q, i, n, hf, hn, hi, h1, _ => ⟨fun k h0 hk => h1 k h0 hk (by omega), List.Perm.refl _, fun _ _ _ => rfl⟩
  | f + 1, q, i, n, hf, hn, hi, h1, h2 => by
    unfold downL
    by_cases hb : n ≤ 2 * i + 1
    · rw [if_pos hb]
      exact ⟨fun k h0 hk => h1 k h0 hk (by omega), List.Perm.refl _, fun _ _ _ => rfl⟩
    · rw [if_neg hb]
      obtain ⟨k1, k2, k3, k4⟩ := kidL_spec q i n (by omega)
      generalize kidL q i n = j at *
      have hj : j < q.length := by omega
      by_cases hl : ltE (gE q j) (gE q i) = true
      · rw [if_pos hl]
        have hle := le_of_lt hl
        have hg : ∀ k, gE (swapL q i j) k = if j = k then gE q i else if i = k then gE q j else gE q k := fun k => gE_swap q i j k hi hj
        have r := downL_spec f (swapL q i j) j n (by omega) (by rw [swapL_length]; exact hn) (by rw [swapL_length]; exact hj) ?_ ?_
        · refine ⟨r.1, r.2.1.trans (swapL_perm q i j hi hj), fun k hk hin => ?_⟩
          rw [r.2.2 k hk (by omega), hg, if_neg (by omega), if_neg (by omega)]
        · intro k hk0 hk hpj
          rw [hg, hg]
          by_cases hkj : j = k
          · subst hkj
            rw [if_pos rfl, k3, if_neg (by omega), if_pos rfl]
            exact hle
          · rw [if_neg hkj, if_neg (show ¬ j = (k - 1) / 2 from fun e => hpj e.symm)]
            by_cases hki : i = k
            · subst hki
              rw [if_pos rfl, if_neg (by omega)]
              exact h2 j (by omega) k1 k3 hk0
            · rw [if_neg hki]
              by_cases hp : i = (k - 1) / 2
              · rw [if_pos hp]
                exact k4 k hk0 hk hp.symm
              · rw [if_neg hp]
                exact h1 k hk0 hk (fun e => hp e.symm)
        · intro k hk0 hk hpj hj0
          rw [hg, hg, k3, if_neg (by omega), if_pos rfl, if_neg (by omega), if_neg (by omega), ← hpj]
          exact h1 k hk0 hk (by omega)
      · rw [if_neg hl]
        refine ⟨fun k hk0 hk => ?_, List.Perm.refl _, fun _ _ _ => rfl⟩
        by_cases hp : (k - 1) / 2 = i
        · rw [hp]
          exact (le_of_not (Bool.eq_false_iff.2 hl)).trans (k4 k hk0 hk hp)
        · exact h1 k hk0 hk hp
/-- Go's Push, Pop. -/
def pushL (q : List Ent) (e : Ent) : List Ent := upL q.length (q ++ [e]) q.length
def restL (q : List Ent) : List Ent := (downL (q.length - 1) (swapL q 0 (q.length - 1)) 0 (q.length - 1)).take (q.length - 1)
theorem gE_app (q r : List Ent) (k : Nat) (h : k < q.length) : gE (q ++ r) k = gE q k := by
  unfold gE
  rw [List.getD_eq_getElem?_getD, List.getD_eq_getElem?_getD, List.getElem?_append_left h]
theorem gE_take (q : List Ent) (n k : Nat) (h : k < n) : gE (q.take n) k = gE q k := by
  unfold gE
  rw [List.getD_eq_getElem?_getD, List.getD_eq_getElem?_getD, List.getElem?_take, if_pos h]
theorem pushL_spec (q : List Ent) (e : Ent) (h : Heap q q.length) : Heap (pushL q e) (pushL q e).length ∧ (pushL q e).Perm (q ++ [e]) := by
  have hl : (q ++ [e]).length = q.length + 1 := by simp
  have r := upL_spec q.length (q ++ [e]) q.length (Nat.le_refl _) (by omega) (fun k h0 hk hn => by
    rw [gE_app _ _ _ (by omega), gE_app _ _ _ (by omega)]
    exact h k h0 (by omega)) (fun k h0 hk hp hz => by omega)
  unfold pushL
  rw [upL_length]
  exact r
theorem restL_spec (q : List Ent) (h : Heap q q.length) (h0 : 0 < q.length) :
    Heap (restL q) (restL q).length ∧ q.Perm (gE q 0 :: restL q) ∧ (restL q).length = q.length - 1 ∧ gE (downL (q.length - 1) (swapL q 0 (q.length - 1)) 0 (q.length - 1)) (q.length - 1) = gE q 0 := by
  obtain ⟨n, hn⟩ : ∃ n, q.length - 1 = n := ⟨_, rfl⟩
  have hq : q.length = n + 1 := by omega
  have hg : ∀ k, gE (swapL q 0 n) k = if n = k then gE q 0 else if 0 = k then gE q n else gE q k := fun k => gE_swap q 0 n k h0 (by omega)
  have r := downL_spec n (swapL q 0 n) 0 n (by omega) (by rw [swapL_length]; omega) (by rw [swapL_length]; omega) (fun k hk0 hk hp => by
    rw [hg, hg, if_neg (by omega), if_neg (by omega), if_neg (by omega), if_neg (by omega)]
    exact h k hk0 (by omega)) (fun k _ _ _ hz => absurd hz (by omega))
  have hlen : (downL n (swapL q 0 n) 0 n).length = n + 1 := by rw [downL_length, swapL_length, hq]
  have hlast : gE (downL n (swapL q 0 n) 0 n) n = gE q 0 := by
    by_cases hn0 : n = 0
    · subst hn0
      show gE (swapL q 0 0) 0 = _
      rw [hg, if_pos rfl]
    · rw [r.2.2 n (Nat.le_refl _) (by omega), hg, if_pos rfl]
  have hrl : (restL q).length = n := by unfold restL; rw [hn, List.length_take, hlen]; omega
  refine ⟨?_, ?_, by omega, by rw [hn]; exact hlast⟩
  · rw [hrl]
    intro k hk0 hk
    unfold restL
    rw [hn, gE_take _ _ _ (by omega), gE_take _ _ _ hk]
    exact r.1 k hk0 hk
  · have hp := r.2.1.trans (swapL_perm q 0 n h0 (by omega))
    refine hp.symm.trans ?_
    have hs : downL n (swapL q 0 n) 0 n = (downL n (swapL q 0 n) 0 n).take n ++ [gE q 0] := by
      conv => lhs; rw [← List.take_append_drop n (downL n (swapL q 0 n) 0 n)]
      rw [List.drop_eq_getElem_cons (by omega), gE_elem (by omega), hlast, List.drop_eq_nil_of_le (by omega)]
    rw [hs]
    unfold restL
    rw [hn]
    exact List.perm_append_singleton _ _
end Go.Proofs.Ytbgcbnlpjjhmhaa.HeapLaw
