/- The fetch queue of layer 21, walked: New, Flush, Len, Next. -/
import Derived.Test.YtiogbgjeimdgmaaMmuI
namespace Go.Proofs.Ytiogbgjeimdgmaa.MmuWalk
open Go.RowKit Go.Proofs.Ytiogbgjeimdgmaa.Aid Go.Proofs.YtiogbgjeimdgmaaW.PrintWords Go.Proofs.YtiogbgjeimdgmaaW.PrintLast Go.Proofs.YtiogbgjeimdgmaaW.PrintMore
open Go.Proofs.Ytiogbgjeimdgmaa.RamWalk (RamAt Bytes leN)
open Go.Proofs.Ytiogbgjeimdgmaa.TlbWalk (TlbAt Kept2 putP dropP posP entP nil2)
attribute [local go_sem] max2_int min2_int max_two min_two max_three min_three max_four min_four   -- for this text's walks alone
set_option linter.unusedVariables false
set_option linter.unusedSimpArgs false
def qCells (m : Nat) (pc : Int) (u : Bool) (vb : Value) (f : Flt) : Array Value := #[.pointer (some ⟨m, 0, none⟩), .int .u32 pc, .bool u, vb, .int .i64 f.1, .int .u32 f.2.1, .int .u32 f.2.2]
/-- A queue in memory: its block, the bytes that it owns. -/
structure QAt (W : World) (base q m : Nat) (pc : Int) (u : Bool) (vb : Value) (bs : List Int) (f : Flt) : Prop where
  blk : W.heap[q]? = some (.cells (qCells m pc u vb f) 109 (0, 0))
  ge : base ≤ q
  row : W.ownsRow base 5 1 vb bs.length (nums .u8 bs)
theorem QAt.lt {W : World} {base q m : Nat} {pc : Int} {u : Bool} {vb : Value} {bs : List Int} {f : Flt} (h : QAt W base q m pc u vb bs f) : q < W.heap.size := (Array.getElem?_eq_some_iff.1 h.blk).1
theorem QAt.cell {W : World} {base q m : Nat} {pc : Int} {u : Bool} {vb : Value} {bs : List Int} {f : Flt} (h : QAt W base q m pc u vb bs f) (j : Nat) : W.cell? ⟨q, j, none⟩ = (qCells m pc u vb f)[j]? := cell_of_row W q j _ _ _ h.blk
theorem QAt.free {W : World} {base q m : Nat} {pc : Int} {u : Bool} {vb : Value} {bs : List Int} {f : Flt} (h : QAt W base q m pc u vb bs f) (j : Nat) : W.frozen? ⟨q, j, none⟩ = false := frozen_of_row W q j _ _ h.blk
theorem QAt.keep {W W' : World} {base q m : Nat} {pc : Int} {u : Bool} {vb : Value} {bs : List Int} {f : Flt} (h : QAt W base q m pc u vb bs f) (k : ∀ i, (i = q ∨ some i = vb.ownBlock) → W'.heap[i]? = W.heap[i]?) : QAt W' base q m pc u vb bs f :=
  ⟨(k q (.inl rfl)).trans h.blk, h.ge, own_keep h.row (fun i hi => k i (.inr hi.symm))⟩
theorem QAt.rowlt {W : World} {base q m : Nat} {pc : Int} {u : Bool} {vb : Value} {bs : List Int} {f : Flt} (h : QAt W base q m pc u vb bs f) (i : Nat) (hi : vb.ownBlock = some i) : base ≤ i ∧ i < W.heap.size ∧ i ≠ q := by
  rcases h.row.2 with ⟨rfl, _⟩ | ⟨b, c, cur, rfl, hb, hh, _⟩
  · simp [Value.ownBlock] at hi
  · simp only [Value.ownBlock, Option.some.injEq] at hi
    subst hi
    refine ⟨hb, (Array.getElem?_eq_some_iff.1 hh).1, ?_⟩
    rintro rfl
    have := h.blk
    rw [this] at hh
    simp at hh
theorem QAt.then {W W' : World} {base q m : Nat} {pc : Int} {u : Bool} {vb : Value} {bs : List Int} {f : Flt} (h : QAt W base q m pc u vb bs f) (k : Below W.heap.size W W') : QAt W' base q m pc u vb bs f :=
  h.keep fun i hi => k.block i (by
    rcases hi with rfl | hi
    · exact h.lt
    · exact (h.rowlt i hi.symm).2.1)
theorem fnew_call (w : World) (m : Nat) : Calls Try.prog 21 #[.pointer (some ⟨m, 0, none⟩)] w fun e w' => ∃ q, e = .returned (.pointer (some ⟨q, 0, none⟩)) ∧ QAt w' w.heap.size q m 0 false (.slice none 0 0) [] noF ∧ Below w.heap.size w w' := by
  go_enter Try.func21, Try.ntmps21
  go_wp2
  go_ret
  exact ⟨_, rfl, ⟨blk_new _ _, Nat.le_refl _, World.ownsRow_nil _ _ _ _⟩, below_alloc (Below.refl _ _) _⟩
theorem flen_call (w : World) (base q m : Nat) (pc : Int) (u : Bool) (A : Option Addr) (n c : Nat) (bs : List Int) (f : Flt) (h : QAt w base q m pc u (.slice A n c) bs f) : Calls Try.prog 26 #[.pointer (some ⟨q, 0, none⟩)] w fun e w' => e = .returned (.int .i64 n) ∧ w = w' := by
  have c3 : w.cell? ⟨q, 3, none⟩ = some (.slice A n c) := h.cell 3
  clear h
  go_enter Try.func26, Try.ntmps26
  go_wp2
  go_ret
  exact ⟨rfl, rfl⟩
theorem fnext_call (w : World) (base q m : Nat) (pc : Int) (u : Bool) (vb : Value) (bs : List Int) (f : Flt) (h : QAt w base q m pc u vb bs f) : Calls Try.prog 27 #[.pointer (some ⟨q, 0, none⟩)] w fun e w' => e = .returned (.int .u32 pc) ∧ w = w' := by
  have c1 : w.cell? ⟨q, 1, none⟩ = some (.int .u32 pc) := h.cell 1
  clear h
  go_enter Try.func27, Try.ntmps27
  go_wp2
  go_ret
  exact ⟨rfl, rfl⟩
/-- A queue's blocks. -/
def qfoot (q : Nat) (vb : Value) (i : Nat) : Prop := i = q ∨ some i = vb.ownBlock
theorem q_put {W : World} {base q m : Nat} {pc pc' : Int} {u u' : Bool} {vb : Value} {bs : List Int} {f f' : Flt} (h : QAt W base q m pc u vb bs f) (j : Nat) (x : Value)
    (hb : (W.setCell ⟨q, j, none⟩ x).heap[q]? = some (.cells (qCells m pc' u' vb f') 109 (0, 0))) : QAt (W.setCell ⟨q, j, none⟩ x) base q m pc' u' vb bs f' ∧ Chg (fun i => i = q) W (W.setCell ⟨q, j, none⟩ x) := by
  have e : ∀ i, i ≠ q → (W.setCell ⟨q, j, none⟩ x).heap[i]? = W.heap[i]? := fun i hi => Below.heap_setCell W ⟨q, j, none⟩ _ i hi
  exact ⟨⟨hb, h.ge, own_keep h.row (fun i hi => e i (h.rowlt i hi).2.2)⟩, ⟨rfl, rfl, rfl, by simp [World.setCell], fun i hi hf => e i hf⟩⟩
end Go.Proofs.Ytiogbgjeimdgmaa.MmuWalk
