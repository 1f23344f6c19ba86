/- The document's queue: in memory; its plain lemmas. -/
import Derived.Test.YtiogbgjeimdgmaaRefS
namespace Go.Proofs.Ytiogbgjeimdgmaa.RefWalk
open Go.RowKit Go.Proofs.Ytiogbgjeimdgmaa.Aid Go.Proofs.YtiogbgjeimdgmaaW.PrintWords Go.Proofs.YtiogbgjeimdgmaaW.PrintLast Go.Proofs.YtiogbgjeimdgmaaW.PrintMore
open Go.Proofs.Ytiogbgjeimdgmaa.MmuWalk
open Go.Proofs.Ytiogbgjeimdgmaa.RamWalk (Bytes leN own_cell putL)
open Go.Proofs.Ytiogbgjeimdgmaa.TlbWalk (RefAt own_then own_val own_some dropP)
set_option linter.unusedVariables false
set_option linter.unusedSimpArgs false
structure YAt (W : World) (base q m : Nat) (pc : Int) (u : Bool) (vb : Value) (bs : List Int) (f : Flt) : Prop where
  blk : W.heap[q]? = some (.cells (qCells m pc u vb f) 83 (0, 0))
  ge : base ≤ q
  row : W.ownsRow base 5 1 vb bs.length (nums .u8 bs)
theorem YAt.lt {W : World} {base q m : Nat} {pc : Int} {u : Bool} {vb : Value} {bs : List Int} {f : Flt} (h : YAt W base q m pc u vb bs f) : q < W.heap.size := (Array.getElem?_eq_some_iff.1 h.blk).1
theorem YAt.cell {W : World} {base q m : Nat} {pc : Int} {u : Bool} {vb : Value} {bs : List Int} {f : Flt} (h : YAt W base q m pc u vb bs f) (j : Nat) : W.cell? ⟨q, j, none⟩ = (qCells m pc u vb f)[j]? := cell_of_row W q j _ _ _ h.blk
theorem YAt.free {W : World} {base q m : Nat} {pc : Int} {u : Bool} {vb : Value} {bs : List Int} {f : Flt} (h : YAt W base q m pc u vb bs f) (j : Nat) : W.frozen? ⟨q, j, none⟩ = false := frozen_of_row W q j _ _ h.blk
theorem YAt.keep {W W' : World} {base q m : Nat} {pc : Int} {u : Bool} {vb : Value} {bs : List Int} {f : Flt} (h : YAt W base q m pc u vb bs f) (k : ∀ i, (i = q ∨ some i = vb.ownBlock) → W'.heap[i]? = W.heap[i]?) : YAt W' base q m pc u vb bs f :=
  ⟨(k q (.inl rfl)).trans h.blk, h.ge, own_keep h.row (fun i hi => k i (.inr hi.symm))⟩
theorem YAt.rowlt {W : World} {base q m : Nat} {pc : Int} {u : Bool} {vb : Value} {bs : List Int} {f : Flt} (h : YAt W base q m pc u vb bs f) (i : Nat) (hi : vb.ownBlock = some i) : base ≤ i ∧ i < W.heap.size ∧ i ≠ q := by
  rcases h.row.2 with ⟨rfl, _⟩ | ⟨b, c, cur, rfl, hb, hh, _⟩
  · simp [Value.ownBlock] at hi
  · simp only [Value.ownBlock, Option.some.injEq] at hi
    subst hi
    refine ⟨hb, (Array.getElem?_eq_some_iff.1 hh).1, ?_⟩
    rintro rfl
    have := h.blk
    rw [this] at hh
    simp at hh
theorem YAt.then {W W' : World} {base q m : Nat} {pc : Int} {u : Bool} {vb : Value} {bs : List Int} {f : Flt} (h : YAt W base q m pc u vb bs f) (k : Below W.heap.size W W') : YAt W' base q m pc u vb bs f :=
  h.keep fun i hi => k.block i (by
    rcases hi with rfl | hi
    · exact h.lt
    · exact (h.rowlt i hi.symm).2.1)
theorem yq_put {W : World} {base q m : Nat} {pc pc' : Int} {u u' : Bool} {vb : Value} {bs : List Int} {f f' : Flt} (h : YAt W base q m pc u vb bs f) (j : Nat) (x : Value)
    (hb : (W.setCell ⟨q, j, none⟩ x).heap[q]? = some (.cells (qCells m pc' u' vb f') 83 (0, 0))) : YAt (W.setCell ⟨q, j, none⟩ x) base q m pc' u' vb bs f' ∧ Chg (fun i => i = q) W (W.setCell ⟨q, j, none⟩ x) := by
  have e : ∀ i, i ≠ q → (W.setCell ⟨q, j, none⟩ x).heap[i]? = W.heap[i]? := fun i hi => Below.heap_setCell W ⟨q, j, none⟩ _ i hi
  exact ⟨⟨hb, h.ge, own_keep h.row (fun i hi => e i (h.rowlt i hi).2.2)⟩, ⟨rfl, rfl, rfl, by simp [World.setCell], fun i hi hf => e i hf⟩⟩
theorem yq_fault {W : World} {base q m : Nat} {pc : Int} {u : Bool} {vb : Value} {bs : List Int} {f : Flt} (h : YAt W base q m pc u vb bs f) (fk fv fi : Int) :
    YAt (((W.setCell ⟨q, 4, none⟩ (.int .i64 fk)).setCell ⟨q, 5, none⟩ (.int .u32 fv)).setCell ⟨q, 6, none⟩ (.int .u32 fi)) base q m pc u vb bs (fk, fv, fi) ∧ Chg (fun i => i = q) W (((W.setCell ⟨q, 4, none⟩ (.int .i64 fk)).setCell ⟨q, 5, none⟩ (.int .u32 fv)).setCell ⟨q, 6, none⟩ (.int .u32 fi)) := by
  obtain ⟨m4, k4⟩ := yq_put h (pc' := pc) (u' := u) (f' := (fk, f.2.1, f.2.2)) 4 (.int .i64 fk) (blk_put h.blk 4 _ rfl)
  generalize W.setCell ⟨q, 4, none⟩ (.int .i64 fk) = W4 at *
  obtain ⟨m5, k5⟩ := yq_put m4 (pc' := pc) (u' := u) (f' := (fk, fv, f.2.2)) 5 (.int .u32 fv) (blk_put m4.blk 5 _ rfl)
  generalize W4.setCell ⟨q, 5, none⟩ (.int .u32 fv) = W5 at *
  obtain ⟨m6, k6⟩ := yq_put m5 (pc' := pc) (u' := u) (f' := (fk, fv, fi)) 6 (.int .u32 fi) (blk_put m5.blk 6 _ rfl)
  exact ⟨m6, (k4.trans k5 (fun i _ h => h)).trans k6 (fun i _ h => h)⟩
theorem yq_append {W W1 : World} {base q m : Nat} {pc : Int} {u : Bool} {vb v1 : Value} {bs bs' : List Int} {f : Flt} (h : YAt W base q m pc u vb bs f) {n : Nat} (hl : bs'.length = n) (ho : W1.ownsRow base 5 1 v1 n (nums .u8 bs')) (hg : W.grownBy W1 vb.ownBlock)
    (hat : v1.ownBlock = vb.ownBlock ∨ ∃ b, v1.ownBlock = some b ∧ W.heap.size ≤ b) (pc' : Int) :
    W1.cell? ⟨q, 1, none⟩ = some (.int .u32 pc) ∧ W1.cell? ⟨q, 3, none⟩ = some vb ∧ W1.frozen? ⟨q, 1, none⟩ = false ∧ W1.frozen? ⟨q, 3, none⟩ = false ∧ (W1.setCell ⟨q, 3, none⟩ v1).cell? ⟨q, 1, none⟩ = some (.int .u32 pc) ∧
    YAt ((W1.setCell ⟨q, 3, none⟩ v1).setCell ⟨q, 1, none⟩ (.int .u32 pc')) base q m pc' u v1 bs' f ∧ NextRow W vb v1 ∧ Chg (qfoot q vb) W ((W1.setCell ⟨q, 3, none⟩ v1).setCell ⟨q, 1, none⟩ (.int .u32 pc')) := by
  subst hl
  have hne : some q ≠ vb.ownBlock := fun e => (h.rowlt q e.symm).2.2 rfl
  have hb : W1.heap[q]? = some (.cells (qCells m pc u vb f) 83 (0, 0)) := (hg.block q h.lt hne).trans h.blk
  have hv : v1.ownBlock ≠ some q := by
    intro e
    rcases hat with k | ⟨b, k, hb'⟩
    · exact hne (by rw [← k, e])
    · rw [e] at k
      simp only [Option.some.injEq] at k
      have := h.lt
      omega
  have hb3 : (W1.setCell ⟨q, 3, none⟩ v1).heap[q]? = some (.cells (qCells m pc u v1 f) 83 (0, 0)) := blk_put hb 3 v1 rfl
  have k3 : YAt (W1.setCell ⟨q, 3, none⟩ v1) base q m pc u v1 bs' f := ⟨hb3, h.ge, ownsRow_setCell_other ho hv _⟩
  obtain ⟨k1, g1⟩ := yq_put k3 (pc' := pc') (u' := u) (f' := f) 1 (.int .u32 pc') (blk_put hb3 1 _ rfl)
  refine ⟨cell_of_row _ _ 1 _ _ _ hb, cell_of_row _ _ 3 _ _ _ hb, frozen_of_row _ _ 1 _ _ hb, frozen_of_row _ _ 3 _ _ hb, cell_of_row _ _ 1 _ _ _ hb3, k1, NextRow.of_or hat, ?_⟩
  have g0 : Chg (qfoot q vb) W (W1.setCell ⟨q, 3, none⟩ v1) := ⟨hg.os, hg.tape, hg.output, by simpa [World.setCell] using hg.size, fun i hi hf => (Below.heap_setCell W1 ⟨q, 3, none⟩ v1 i (fun e => hf (.inl e))).trans (hg.block i hi (fun e => hf (.inr e)))⟩
  exact g0.trans g1 (fun i _ e => .inl e)
theorem yqfoot_ge {W : World} {base q m : Nat} {pc : Int} {u : Bool} {vb : Value} {bs : List Int} {f : Flt} (h : YAt W base q m pc u vb bs f) (i : Nat) (k : qfoot q vb i) : base ≤ i := by
  rcases k with k | k
  · rw [k]; exact h.ge
  · exact (h.rowlt i k.symm).1
theorem yq_val {W : World} {base q m : Nat} {pc : Int} {u : Bool} {vb : Value} {bs : List Int} {f : Flt} (h : YAt W base q m pc u vb bs f) : ∃ A c, vb = .slice A bs.length c := own_val h.row
theorem yflush_end {W : World} {base q m : Nat} {pc : Int} {u : Bool} {vb : Value} {bs : List Int} {f : Flt} (h : YAt W base q m pc u vb bs f) (pc' : Int) (u' : Bool) :
    YAt ((((((W.setCell ⟨q, 1, none⟩ (.int .u32 pc')).setCell ⟨q, 2, none⟩ (.bool u')).setCell ⟨q, 3, none⟩ (.slice none 0 0)).setCell ⟨q, 4, none⟩ (.int .i64 0)).setCell ⟨q, 5, none⟩ (.int .u32 0)).setCell ⟨q, 6, none⟩ (.int .u32 0)) base q m pc' u' (.slice none 0 0) [] noF ∧
    Chg (fun i => i = q) W ((((((W.setCell ⟨q, 1, none⟩ (.int .u32 pc')).setCell ⟨q, 2, none⟩ (.bool u')).setCell ⟨q, 3, none⟩ (.slice none 0 0)).setCell ⟨q, 4, none⟩ (.int .i64 0)).setCell ⟨q, 5, none⟩ (.int .u32 0)).setCell ⟨q, 6, none⟩ (.int .u32 0)) := by
  obtain ⟨m1, k1⟩ := yq_put h (pc' := pc') (u' := u) (f' := f) 1 (.int .u32 pc') (blk_put h.blk 1 _ rfl)
  generalize W.setCell ⟨q, 1, none⟩ (.int .u32 pc') = W1 at *
  obtain ⟨m2, k2⟩ := yq_put m1 (pc' := pc') (u' := u') (f' := f) 2 (.bool u') (blk_put m1.blk 2 _ rfl)
  generalize W1.setCell ⟨q, 2, none⟩ (.bool u') = W2 at *
  have m3 : YAt (W2.setCell ⟨q, 3, none⟩ (.slice none 0 0)) base q m pc' u' (.slice none 0 0) [] f := ⟨blk_put m2.blk 3 _ rfl, h.ge, World.ownsRow_nil _ _ _ _⟩
  have k3 : Chg (fun i => i = q) W2 (W2.setCell ⟨q, 3, none⟩ (.slice none 0 0)) := ⟨rfl, rfl, rfl, by simp [World.setCell], fun i hi hf => Below.heap_setCell W2 ⟨q, 3, none⟩ _ i hf⟩
  generalize W2.setCell ⟨q, 3, none⟩ (.slice none 0 0) = W3 at *
  obtain ⟨m4, k4⟩ := yq_put m3 (pc' := pc') (u' := u') (f' := (0, f.2.1, f.2.2)) 4 (.int .i64 0) (blk_put m3.blk 4 _ rfl)
  generalize W3.setCell ⟨q, 4, none⟩ (.int .i64 0) = W4 at *
  obtain ⟨m5, k5⟩ := yq_put m4 (pc' := pc') (u' := u') (f' := (0, 0, f.2.2)) 5 (.int .u32 0) (blk_put m4.blk 5 _ rfl)
  generalize W4.setCell ⟨q, 5, none⟩ (.int .u32 0) = W5 at *
  obtain ⟨m6, k6⟩ := yq_put m5 (pc' := pc') (u' := u') (f' := noF) 6 (.int .u32 0) (blk_put m5.blk 6 _ rfl)
  generalize W5.setCell ⟨q, 6, none⟩ (.int .u32 0) = W6 at *
  exact ⟨m6, ((((k1.trans k2 (fun i _ h => h)).trans k3 (fun i _ h => h)).trans k4 (fun i _ h => h)).trans k5 (fun i _ h => h)).trans k6 (fun i _ h => h)⟩
end Go.Proofs.Ytiogbgjeimdgmaa.RefWalk
