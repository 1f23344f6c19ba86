/- The fetch queue's Take of nothing from a nil row. -/
import Derived.Test.YtiogbgjeimdgmaaGFet
namespace Go.Proofs.Ytiogbgjeimdgmaa.MmuWalk
open Go.RowKit Go.Proofs.Ytiogbgjeimdgmaa.Aid Go.Proofs.YtiogbgjeimdgmaaW.PrintWords Go.Proofs.YtiogbgjeimdgmaaW.PrintLast Go.Proofs.YtiogbgjeimdgmaaW.PrintMore
open Go.Proofs.Ytiogbgjeimdgmaa.RamWalk (RamAt Bytes leN)
open Go.Proofs.Ytiogbgjeimdgmaa.TlbWalk (own_val)
attribute [local go_sem] max2_int min2_int max_two min_two max_three min_three max_four min_four   -- for this text's walks alone
set_option linter.unusedVariables false
set_option linter.unusedSimpArgs false
theorem equalIn_nn (w : World) (d : Nat) : (Op.equalIn (d + 1) 22 (.slice none 0 0) (.slice none 0 0)).run Try.prog w = .ok true w := by
  simp [Op.equalIn, run_underlying Try.underlying22]
theorem equal_nn (w : World) : (Op.equal 22 (.slice none 0 0) (.slice none 0 0)).run Try.prog w = .ok true w := equalIn_nn w 9999
theorem eq_nn_run (w : World) : (binOp .eql 22 (.slice none 0 0) (.slice none 0 0)).run Try.prog w = .ok (.bool true) w := by
  simp [binOp, equal_nn w]
theorem clone_nil (w : World) : Calls Try.prog 64 #[.slice none 0 0] w fun e w' => e = .returned (.slice none 0 0) ∧ w = w' := by
  have heq := eq_nn_run
  go_enter Try.func64, Try.ntmps64
  go_wp2
  go_ret
  exact ⟨rfl, rfl⟩
set_option maxRecDepth 100000 in
set_option maxHeartbeats 2000000 in
theorem take_nil (w : World) (base q m : Nat) (pc : Int) (u : Bool) (f : Flt) (h : QAt w base q m pc u (.slice none 0 0) [] f) :
    Calls Try.prog 25 #[.pointer (some ⟨q, 0, none⟩), .int .i64 0] w fun e w' => e = .returned (.tuple #[.slice none 0 0, fltV noF, .bool true]) ∧ QAt w' base q m pc u (.slice none 0 0) [] f ∧ Chg (fun i => i = q) w w' := by
  have H := Aside0.mk h
  have BX := box1 w (.cells #[.int .i64 0, .int .u32 0, .int .u32 0] 47 (0, 0))
  obtain ⟨W, hW⟩ : ∃ W, w.alloc (.cells #[.int .i64 0, .int .u32 0, .int .u32 0] 47 (0, 0)) = W := ⟨_, rfl⟩
  rw [hW] at BX
  have BX := Aside0.mk BX
  have H1 := Aside0.mk (h.then BX.out.1)
  have c3 : W.cell? ⟨q, 3, none⟩ = some (.slice none 0 0) := H1.out.cell 3
  have f3 := H1.out.free 3
  have P := Aside0.mk (q_put H1.out (pc' := pc) (u' := u) (f' := f) 3 (.slice none 0 0) (blk_put H1.out.blk 3 _ rfl))
  have hlt := h.lt
  have hX := Aside0.mk ((Below.heap_setCell W ⟨q, 3, none⟩ (.slice none 0 0) w.heap.size (show w.heap.size ≠ q by omega)).trans BX.out.2)
  clear h hlt
  go_enter Try.func25, Try.ntmps25
  go_wp2_with (first
    | (go_at_call 64; (with_reducible refine (clone_nil _).mono ?_); rintro e w1 ⟨rfl, rfl⟩)
    | (refine wpList_store_row rfl 47 (.tmp 5) (.tmp 46) rfl w.heap.size #[.int .i64 0, .int .u32 0, .int .u32 0] rfl rfl _ _ hX.out infoF rfl (by kernel_rfl) ?_))
  have e : ∀ i, i ≠ w.heap.size → ((W.setCell ⟨q, 3, none⟩ (.slice none 0 0)).setRow w.heap.size #[.int .i64 0, .int .u32 0, .int .u32 0]).heap[i]? = (W.setCell ⟨q, 3, none⟩ (.slice none 0 0)).heap[i]? := fun i hi => setRow_other _ w.heap.size i _ hi
  have hlt := H.out.lt
  have hQ := P.out.1.keep (fun i hi => e i (by
    rcases hi with rfl | hi
    · omega
    · simp [Value.ownBlock] at hi))
  have hC : Chg (fun i => i = q) w ((W.setCell ⟨q, 3, none⟩ (.slice none 0 0)).setRow w.heap.size #[.int .i64 0, .int .u32 0, .int .u32 0]) :=
    ⟨BX.out.1.os, BX.out.1.tape, BX.out.1.output, by simpa [World.setRow, World.setCell] using BX.out.1.size, fun i hi hf => (e i (by omega)).trans ((Below.heap_setCell W ⟨q, 3, none⟩ _ i hf).trans (BX.out.1.block i hi))⟩
  refine bodyPost_ret (results_tct rfl _ _ w.heap.size 47 #[.int .i64 0, .int .u32 0, .int .u32 0] (0, 0) _ rfl (setRow_heap _ _ _ _ 47 _ hX.out) Try.underlying47 rfl infoF) rfl ⟨rfl, hQ, hC⟩
end Go.Proofs.Ytiogbgjeimdgmaa.MmuWalk
