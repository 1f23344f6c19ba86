/- How many bytes differ behind a Store. Plain. -/
import Derived.Test.YtiogbgjeimdgmaaMmvA
namespace Go.Proofs.Ytiogbgjeimdgmaa.MmuWalk
open Go.RowKit Go.Proofs.Ytiogbgjeimdgmaa.Aid Go.Proofs.YtiogbgjeimdgmaaW.PrintWords Go.Proofs.YtiogbgjeimdgmaaW.PrintLast Go.Proofs.YtiogbgjeimdgmaaW.PrintMore
open Go.Proofs.Ytiogbgjeimdgmaa.RamWalk (RamAt Bytes leN putL putL_length)
open Go.Proofs.Ytiogbgjeimdgmaa.TlbWalk (TlbAt putP posP entP nil2)
set_option linter.unusedVariables false
set_option linter.unusedSimpArgs false
/-- In how many of the first k places two lists differ. -/
def difN (a b : List Int) : Nat → Nat
  | 0 => 0
  | k + 1 => difN a b k + if a.getD k 0 = b.getD k 0 then 0 else 1
theorem difN_tri (a b c : List Int) : ∀ k, difN a c k ≤ difN a b k + difN b c k
  | 0 => Nat.le_refl _
  | k + 1 => by
    have := difN_tri a b c k
    unfold difN
    by_cases h1 : a.getD k 0 = b.getD k 0
    · by_cases h2 : b.getD k 0 = c.getD k 0
      · rw [if_pos h1, if_pos h2, if_pos (h1.trans h2)]; omega
      · rw [if_pos h1, if_neg h2, if_neg (fun e => h2 (h1.symm.trans e))]; omega
    · rw [if_neg h1]
      split <;> omega
theorem difN_self (a : List Int) : ∀ k, difN a a k = 0
  | 0 => rfl
  | k + 1 => by unfold difN; rw [difN_self a k, if_pos rfl]
theorem difN_part (a b : List Int) (s m : Nat) (h : ∀ j, ¬ (s ≤ j ∧ j < s + m) → a.getD j 0 = b.getD j 0) : ∀ k, difN a b k ≤ (if k < s + m then k else s + m) - s
  | 0 => by unfold difN; omega
  | k + 1 => by
    have ih := difN_part a b s m h k
    unfold difN
    by_cases hk : s ≤ k ∧ k < s + m
    · rw [if_pos hk.2] at ih
      split <;> split <;> omega
    · rw [if_pos (h k hk)]
      split at ih <;> split <;> omega
theorem difN_le (a b : List Int) (s m k : Nat) (h : ∀ j, ¬ (s ≤ j ∧ j < s + m) → a.getD j 0 = b.getD j 0) : difN a b k ≤ m := by
  have := difN_part a b s m h k
  split at this <;> omega
theorem difN_bound (a b : List Int) : ∀ k, difN a b k ≤ k
  | 0 => Nat.le_refl _
  | k + 1 => by
    have := difN_bound a b k
    unfold difN
    split <;> omega
theorem putL_out (l : List Int) (a : Nat) (x : Int) : ∀ (k j : Nat), ¬ (a ≤ j ∧ j < a + k) → (putL l a x k).getD j 0 = l.getD j 0
  | 0, _, _ => rfl
  | k + 1, j, h => by
    show ((putL l a x k).set (a + k) _).getD j 0 = _
    rw [List.getD_eq_getElem?_getD, List.getElem?_set_ne (by omega), ← List.getD_eq_getElem?_getD]
    exact putL_out l a x k j (by omega)
theorem memMark_dif (T : Tabs) (l : List Int) (va : Int) (k : Nat) : difN (memMark T l va) l k ≤ 4 := by
  unfold memMark
  split
  · rw [difN_self]; omega
  · split
    · exact difN_le _ _ _ 4 k (fun j hj => putL_out _ _ _ 4 j hj)
    · rw [difN_self]; omega
theorem markL_dif (T : Tabs) (ps : List (Int × Int)) (l : List Int) (va : Int) (k : Nat) : difN (markL T ps l va) l k ≤ 4 := by
  unfold markL
  split
  · rw [difN_self]; omega
  · split
    · split
      · rw [difN_self]; omega
      · exact memMark_dif _ _ _ _
    · exact memMark_dif _ _ _ _
theorem marks_dif (T : Tabs) (k : Nat) : ∀ (xs : List Pc) (ps : List (Int × Int)) (l : List Int), difN (marks T xs ps l).2 l k ≤ 4 * xs.length
  | [], ps, l => by show difN l l k ≤ _; rw [difN_self]; omega
  | p :: xs, ps, l => by
    have h1 := marks_dif T k xs (markP T ps p.1) (markL T ps l p.1)
    have h2 := markL_dif T ps l p.1 k
    have h3 := difN_tri (marks T (p :: xs) ps l).2 (markL T ps l p.1) l k
    have e : marks T (p :: xs) ps l = marks T xs (markP T ps p.1) (markL T ps l p.1) := rfl
    rw [e] at h3 ⊢
    rw [List.length_cons]
    omega
theorem splice_out (l ys : List Int) (a j : Nat) (ha : a + ys.length ≤ l.length) (h : ¬ (a ≤ j ∧ j < a + ys.length)) : (l.take a ++ (ys ++ l.drop (a + ys.length))).getD j 0 = l.getD j 0 := by
  rw [List.getD_eq_getElem?_getD, List.getD_eq_getElem?_getD]
  have hl : (l.take a).length = a := by rw [List.length_take]; omega
  by_cases h1 : j < a
  · rw [List.getElem?_append_left (by omega), List.getElem?_take_of_lt h1]
  · have h2 : a + ys.length ≤ j := by omega
    rw [List.getElem?_append_right (by omega), hl, List.getElem?_append_right (by omega), List.getElem?_drop]
    congr 2
    omega
theorem layS_dif (s : List Int × List Int) (p : Pc) (h1 : p.2.1.toNat + p.2.2 ≤ s.1.length) (h2 : p.2.2 ≤ s.2.length) (k : Nat) : difN (layS s p).1 s.1 k ≤ p.2.2 := by
  have hl : (s.2.take p.2.2).length = p.2.2 := by rw [List.length_take]; omega
  refine difN_le _ _ p.2.1.toNat p.2.2 k (fun j hj => ?_)
  have := splice_out s.1 (s.2.take p.2.2) p.2.1.toNat j (by rw [hl]; exact h1) (by rw [hl]; exact hj)
  rw [hl] at this
  exact this
theorem lays_dif (k : Nat) : ∀ (xs : List Pc) (l bs : List Int), (∀ p ∈ xs, p.2.1.toNat + p.2.2 ≤ l.length) → sumN xs ≤ bs.length → difN (lays xs l bs).1 l k ≤ sumN xs
  | [], l, bs, _, _ => by show difN l l k ≤ _; rw [difN_self]; omega
  | p :: xs, l, bs, h, hs => by
    have hs' : p.2.2 + sumN xs ≤ bs.length := hs
    have hp := h p List.mem_cons_self
    obtain ⟨e1, e2⟩ := layS_length (l, bs) p hp (show p.2.2 ≤ bs.length by omega)
    have e1 : (layS (l, bs) p).1.length = l.length := e1
    have e2 : (layS (l, bs) p).2.length = bs.length - p.2.2 := e2
    have i := lays_dif k xs (layS (l, bs) p).1 (layS (l, bs) p).2 (fun q hq => by rw [e1]; exact h q (List.mem_cons_of_mem _ hq)) (by rw [e2]; omega)
    have d := layS_dif (l, bs) p hp (show p.2.2 ≤ bs.length by omega) k
    have t := difN_tri (lays (p :: xs) l bs).1 (layS (l, bs) p).1 l k
    have e : lays (p :: xs) l bs = lays xs (layS (l, bs) p).1 (layS (l, bs) p).2 := rfl
    rw [e] at t ⊢
    show _ ≤ p.2.2 + sumN xs
    have d : difN (layS (l, bs) p).1 l k ≤ p.2.2 := d
    omega
/-- There are few pieces. -/
theorem Pcs.count {T : Tabs} {l : List Int} {u wr keep : Bool} {ps : List (Int × Int)} {va n : Int} {xs : List Pc} {f : Flt} {ps' : List (Int × Int)} (h : Pcs T l u wr keep ps va n xs f ps') : (xs.length : Int) ≤ if n ≤ 0 then 0 else (va % 512 + n + 511) / 512 := by
  induction h with
  | done h => rw [if_pos h]; exact Int.le_refl _
  | @stop ps va n h hf => rw [if_neg (by omega)]; show (0 : Int) ≤ _; omega
  | @more ps0 va0 n0 xs f ps' h hf k ih =>
    rw [if_neg (show ¬ n0 ≤ 0 by omega)]
    have hs : stepN va0 n0 = if n0 < 512 - va0 % 512 then n0 else 512 - va0 % 512 := rfl
    generalize stepN va0 n0 = s at *
    split
    · rw [List.length_cons]
      split at hs
      · subst hs
        rw [if_pos (by omega)] at ih
        omega
      · subst hs
        split at ih <;> omega
    · show (0 : Int) ≤ _; omega
theorem Pcs.few {T : Tabs} {l : List Int} {u wr keep : Bool} {ps : List (Int × Int)} {va : Int} {n : Nat} {xs : List Pc} {f : Flt} {ps' : List (Int × Int)} (h : Pcs T l u wr keep ps va n xs f ps') : xs.length ≤ n / 512 + 2 := by
  have := h.count
  split at this <;> omega
theorem Pcs.fitN {T : Tabs} {l : List Int} {u wr keep : Bool} {ps : List (Int × Int)} {va n : Int} {xs : List Pc} {f : Flt} {ps' : List (Int × Int)} (h : Pcs T l u wr keep ps va n xs f ps') (hv : R32 va) : ∀ p ∈ xs, p.2.1.toNat + p.2.2 ≤ l.length := fun p hp => by
  have h1 := h.fit p hp
  have h2 := (h.r hv p hp).2.1.1
  omega
theorem store_dif {T : Tabs} {l : List Int} {u : Bool} {ps : List (Int × Int)} {va : Int} {bs : List Int} {xs : List Pc} {ps' : List (Int × Int)} (h : Pcs T l u true true ps va bs.length xs (0, 0, 0) ps') (hv : R32 va) (k : Nat) : difN (lays xs (marks T xs ps' l).2 bs).1 l k ≤ bs.length + 4 * (bs.length / 512 + 2) := by
  have h1 := h.few
  have h2 : sumN xs = bs.length := by have := h.total rfl; omega
  have h3 := marks_dif T k xs ps' l
  have h4 := lays_dif k xs (marks T xs ps' l).2 bs (by rw [marks_length]; exact h.fitN hv) (by omega)
  have h5 := difN_tri (lays xs (marks T xs ps' l).2 bs).1 (marks T xs ps' l).2 l k
  omega
end Go.Proofs.Ytiogbgjeimdgmaa.MmuWalk
