/- The MMU's Load, walked. -/
import Derived.Test.YtiogbgjeimdgmaaMmuL
namespace Go.Proofs.Ytiogbgjeimdgmaa.MmuWalk
open Go.RowKit Go.Proofs.Ytiogbgjeimdgmaa.Aid Go.Proofs.YtiogbgjeimdgmaaW.PrintWords Go.Proofs.YtiogbgjeimdgmaaW.PrintLast Go.Proofs.YtiogbgjeimdgmaaW.PrintMore
open Go.Proofs.Ytiogbgjeimdgmaa.RamWalk (RamAt Bytes leN info5 bytes_n)
open Go.Proofs.Ytiogbgjeimdgmaa.TlbWalk (TlbAt Kept2 putP dropP posP entP nil2 own_some own_val own_then)
attribute [local go_sem] max2_int min2_int max_two min_two max_three min_three max_four min_four   -- for this text's walks alone
set_option linter.unusedVariables false
set_option linter.unusedSimpArgs false
/-- The bytes of the pieces. -/
def loadL (l : List Int) (xs : List Pc) : List Int := xs.flatMap fun p => (l.drop p.2.1.toNat).take p.2.2
theorem loadL_append (l : List Int) (a b : List Pc) : loadL l (a ++ b) = loadL l a ++ loadL l b := List.flatMap_append
theorem findF_r' {T : Tabs} {ps : List (Int × Int)} {l : List Int} (va n : Int) (hv : R32 va) (u wr : Bool) : R32 (findF T ps l va n u wr).1 := by
  have z : R32 (0 : Int) := ⟨by decide, by decide⟩
  unfold findF
  split
  · split
    · exact hv
    · exact z
  · split
    · exact z
    · split
      · exact placeE_r _ _
      · exact z
theorem Pcs.r {T : Tabs} {l : List Int} {u wr keep : Bool} {ps : List (Int × Int)} {va n : Int} {xs : List Pc} {f : Flt} {ps' : List (Int × Int)} (h : Pcs T l u wr keep ps va n xs f ps') (hv : R32 va) : ∀ p ∈ xs, R32 p.1 ∧ R32 p.2.1 ∧ p.2.2 ≤ 512 := by
  induction h with
  | done h => intro p hp; cases hp
  | stop h hf => intro p hp; cases hp
  | @more ps0 va0 n0 xs f ps' h hf k ih =>
    intro p hp
    have h2 := (stepN_pos (va := va0) h).2.2
    split at hp
    · rcases List.mem_cons.1 hp with rfl | hp
      · exact ⟨hv, findF_r' _ _ hv _ _, by show (stepN va0 n0).toNat ≤ 512; omega⟩
      · exact ih ⟨by omega, by omega⟩ p hp
    · cases hp
theorem Pcs.sum {T : Tabs} {l : List Int} {u wr keep : Bool} {ps : List (Int × Int)} {va n : Int} {xs : List Pc} {f : Flt} {ps' : List (Int × Int)} (h : Pcs T l u wr keep ps va n xs f ps') : (loadL l xs).length ≤ n.toNat := by
  induction h with
  | done h => exact Nat.zero_le _
  | stop h hf => exact Nat.zero_le _
  | @more ps0 va0 n0 xs f ps' h hf k ih =>
    have h2 := stepN_pos (va := va0) h
    split
    · show ((l.drop _).take (stepN va0 n0).toNat ++ loadL l xs).length ≤ _
      rw [List.length_append, List.length_take]
      have : min (stepN va0 n0).toNat (l.drop (findF T ps0 l va0 (stepN va0 n0) u wr).1.toNat).length ≤ (stepN va0 n0).toNat := Nat.min_le_left _ _
      omega
    · exact Nat.zero_le _
theorem pcs5_get (u wt : Bool) (k : Nat) (hk : k < 5) : ∀ (xs : List Pc) (j : Nat), (pcs5 u wt xs)[j * 5 + k]? = if j < xs.length then (pc5 u wt (xs.getD j (0, 0, 0)))[k]? else none
  | [], j => by simp [pcs5]
  | p :: xs, 0 => by
    have : k < (pc5 u wt p).length := hk
    show (pc5 u wt p ++ pcs5 u wt xs)[0 * 5 + k]? = _
    rw [Nat.zero_mul, Nat.zero_add, List.getElem?_append_left this]
    simp
  | p :: xs, j + 1 => by
    have : (pc5 u wt p).length = 5 := rfl
    show (pc5 u wt p ++ pcs5 u wt xs)[(j + 1) * 5 + k]? = _
    rw [List.getElem?_append_right (by omega), show (j + 1) * 5 + k - (pc5 u wt p).length = j * 5 + k by omega, pcs5_get u wt k hk xs j]
    simp
theorem pcs_at {W : World} {base : Nat} {u wt : Bool} {xs : List Pc} {A : Option Addr} {c : Nat} (h : W.ownsRow base 123 5 (.slice A xs.length c) xs.length (pcs5 u wt xs)) (hx : 0 < xs.length) : ∃ b, A = some ⟨b, 0, none⟩ ∧ b < W.heap.size ∧ ∀ j, j < xs.length → ∀ k, k < 5 → W.cell? ⟨b, j * 5 + k, none⟩ = (pc5 u wt (xs.getD j (0, 0, 0)))[k]? := by
  rcases h.2 with ⟨_, h0⟩ | ⟨b, c', cur, hv, _, hh, _⟩
  · omega
  · simp only [Value.slice.injEq] at hv
    obtain ⟨rfl, -, rfl⟩ := hv
    refine ⟨b, rfl, (Array.getElem?_eq_some_iff.1 hh).1, fun j hj k hk => ?_⟩
    have := h.cellAt (j * 5 + k) (by omega)
    rw [this, pcs5_get u wt k hk xs j, if_pos hj]
/-- At the head of Load's loop. -/
structure LHead (V wr : World) (l : List Int) (xs : List Pc) (j : Nat) (vo : Value) : Prop where
  below : Below V.heap.size V wr
  out : wr.ownsRow V.heap.size 5 1 vo (loadL l (xs.take j)).length (nums .u8 (loadL l (xs.take j)))
theorem loadL_next (l : List Int) (xs : List Pc) (j : Nat) (hj : j < xs.length) : loadL l (xs.take (j + 1)) = loadL l (xs.take j) ++ (l.drop (xs.getD j (0, 0, 0)).2.1.toNat).take (xs.getD j (0, 0, 0)).2.2 := by
  rw [List.take_add_one, List.getElem?_eq_getElem hj, List.getD_eq_getElem?_getD, List.getElem?_eq_getElem hj, loadL_append]
  congr 1
  simp [loadL]
theorem loadL_le (l : List Int) (xs : List Pc) (j : Nat) : (loadL l (xs.take j)).length ≤ (loadL l xs).length := by
  have : loadL l xs = loadL l (xs.take j) ++ loadL l (xs.drop j) := by rw [← loadL_append, List.take_append_drop]
  rw [this, List.length_append]; omega
theorem own_put3 {W : World} {base n s g : Nat} {v : Value} {xs : List Value} {cs : Array Value} {ty t2 : TypeId} (h : W.ownsRow base ty s v n xs) (hg : W.heap[g]? = some (.cells cs t2 (0, 0))) (ht : ty ≠ t2) (x y z : Value) : (((W.setCell ⟨g, 0, none⟩ x).setCell ⟨g, 1, none⟩ y).setCell ⟨g, 2, none⟩ z).drew.ownsRow base ty s v n xs :=
  own_keep h fun i hi => by
    obtain ⟨cur, hc⟩ := row_ty h i hi
    have hne : i ≠ g := fun e => by rw [e, hg] at hc; simp only [Option.some.injEq, Obj.cells.injEq] at hc; exact ht hc.2.1.symm
    exact (Below.heap_setCell _ ⟨g, 2, none⟩ z i hne).trans ((Below.heap_setCell _ ⟨g, 1, none⟩ y i hne).trans (Below.heap_setCell W ⟨g, 0, none⟩ x i hne))
end Go.Proofs.Ytiogbgjeimdgmaa.MmuWalk
