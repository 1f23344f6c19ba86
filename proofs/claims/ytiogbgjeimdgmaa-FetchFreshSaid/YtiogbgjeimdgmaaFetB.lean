/- The fetch queue's Flush and Cycle, walked. -/
import Derived.Test.YtiogbgjeimdgmaaFetA
import Derived.Laws.StructEq
namespace Go.Proofs.Ytiogbgjeimdgmaa.MmuWalk
open Go.RowKit Go.Proofs.Ytiogbgjeimdgmaa.Aid Go.Proofs.YtiogbgjeimdgmaaW.PrintWords Go.Proofs.YtiogbgjeimdgmaaW.PrintLast Go.Proofs.YtiogbgjeimdgmaaW.PrintMore
open Go.Proofs.Ytiogbgjeimdgmaa.RamWalk (RamAt Bytes leN)
open Go.Proofs.Ytiogbgjeimdgmaa.TlbWalk (TlbAt Kept2 putP dropP posP entP nil2)
attribute [local go_sem] max2_int min2_int max_two min_two max_three min_three max_four min_four   -- for this text's walks alone
set_option linter.unusedVariables false
set_option linter.unusedSimpArgs false
theorem flush_end {W : World} {base q m : Nat} {pc : Int} {u : Bool} {vb : Value} {bs : List Int} {f : Flt} (h : QAt W base q m pc u vb bs f) (pc' : Int) (u' : Bool) :
    QAt ((((((W.setCell ⟨q, 1, none⟩ (.int .u32 pc')).setCell ⟨q, 2, none⟩ (.bool u')).setCell ⟨q, 3, none⟩ (.slice none 0 0)).setCell ⟨q, 4, none⟩ (.int .i64 0)).setCell ⟨q, 5, none⟩ (.int .u32 0)).setCell ⟨q, 6, none⟩ (.int .u32 0)) base q m pc' u' (.slice none 0 0) [] noF ∧
    Chg (fun i => i = q) W ((((((W.setCell ⟨q, 1, none⟩ (.int .u32 pc')).setCell ⟨q, 2, none⟩ (.bool u')).setCell ⟨q, 3, none⟩ (.slice none 0 0)).setCell ⟨q, 4, none⟩ (.int .i64 0)).setCell ⟨q, 5, none⟩ (.int .u32 0)).setCell ⟨q, 6, none⟩ (.int .u32 0)) := by
  obtain ⟨m1, k1⟩ := q_put h (pc' := pc') (u' := u) (f' := f) 1 (.int .u32 pc') (blk_put h.blk 1 _ rfl)
  generalize W.setCell ⟨q, 1, none⟩ (.int .u32 pc') = W1 at *
  obtain ⟨m2, k2⟩ := q_put m1 (pc' := pc') (u' := u') (f' := f) 2 (.bool u') (blk_put m1.blk 2 _ rfl)
  generalize W1.setCell ⟨q, 2, none⟩ (.bool u') = W2 at *
  have m3 : QAt (W2.setCell ⟨q, 3, none⟩ (.slice none 0 0)) base q m pc' u' (.slice none 0 0) [] f := ⟨blk_put m2.blk 3 _ rfl, h.ge, World.ownsRow_nil _ _ _ _⟩
  have k3 : Chg (fun i => i = q) W2 (W2.setCell ⟨q, 3, none⟩ (.slice none 0 0)) := ⟨rfl, rfl, rfl, by simp [World.setCell], fun i hi hf => Below.heap_setCell W2 ⟨q, 3, none⟩ _ i hf⟩
  generalize W2.setCell ⟨q, 3, none⟩ (.slice none 0 0) = W3 at *
  obtain ⟨m4, k4⟩ := q_put m3 (pc' := pc') (u' := u') (f' := (0, f.2.1, f.2.2)) 4 (.int .i64 0) (blk_put m3.blk 4 _ rfl)
  generalize W3.setCell ⟨q, 4, none⟩ (.int .i64 0) = W4 at *
  obtain ⟨m5, k5⟩ := q_put m4 (pc' := pc') (u' := u') (f' := (0, 0, f.2.2)) 5 (.int .u32 0) (blk_put m4.blk 5 _ rfl)
  generalize W4.setCell ⟨q, 5, none⟩ (.int .u32 0) = W5 at *
  obtain ⟨m6, k6⟩ := q_put m5 (pc' := pc') (u' := u') (f' := noF) 6 (.int .u32 0) (blk_put m5.blk 6 _ rfl)
  generalize W5.setCell ⟨q, 6, none⟩ (.int .u32 0) = W6 at *
  exact ⟨m6, ((((k1.trans k2 (fun i _ h => h)).trans k3 (fun i _ h => h)).trans k4 (fun i _ h => h)).trans k5 (fun i _ h => h)).trans k6 (fun i _ h => h)⟩
set_option maxRecDepth 100000 in
theorem flush_call (w : World) (base q m : Nat) (pc pc' : Int) (u u' : Bool) (vb : Value) (bs : List Int) (f : Flt) (h : QAt w base q m pc u vb bs f) :
    Calls Try.prog 22 #[.pointer (some ⟨q, 0, none⟩), .int .u32 pc', .bool u'] w fun e w' => e = .returned (.tuple #[]) ∧ QAt w' base q m pc' u' (.slice none 0 0) [] noF ∧ Chg (fun i => i = q) w w' := by
  have FE := Aside0.mk (flush_end h pc' u')
  have c1 := h.cell 1
  have c2 := h.cell 2
  have c3 := h.cell 3
  have c4 := h.cell 4
  have c5 := h.cell 5
  have c6 := h.cell 6
  have f1 := h.free 1
  have f2 := h.free 2
  have f3 := h.free 3
  have f4 := h.free 4
  have f5 := h.free 5
  have f6 := h.free 6
  simp only [qCells, List.getElem?_toArray, List.getElem?_cons_zero, List.getElem?_cons_succ] at c1 c2 c3 c4 c5 c6
  clear h
  go_enter Try.func22, Try.ntmps22
  go_wp2
  first | go_end0 | refine bodyPost_ret (results_none rfl _ _ _) rfl ?_
  exact ⟨rfl, FE.out⟩
set_option maxRecDepth 100000 in
theorem cycle_full (w : World) (base q m : Nat) (pc : Int) (u : Bool) (A : Option Addr) (n c : Nat) (bs : List Int) (f : Flt) (h : QAt w base q m pc u (.slice A n c) bs f) (hn : 16 ≤ n) :
    Calls Try.prog 23 #[.pointer (some ⟨q, 0, none⟩)] w fun e w' => e = .returned (.tuple #[]) ∧ w = w' := by
  have c3 : w.cell? ⟨q, 3, none⟩ = some (.slice A n c) := h.cell 3
  have hn' : (16 : Int) ≤ n := by omega
  clear h
  go_enter Try.func23, Try.ntmps23
  go_wp2
  first | go_end0 | refine bodyPost_ret (results_none rfl _ _ _) rfl ?_
  exact ⟨rfl, rfl⟩
set_option maxRecDepth 100000 in
theorem cycle_stop (w : World) (base q m : Nat) (pc fk fv fi : Int) (u : Bool) (A : Option Addr) (n c : Nat) (bs : List Int) (h : QAt w base q m pc u (.slice A n c) bs (fk, fv, fi)) (hn : n < 16) (hf : (fk == 0) = false) :
    Calls Try.prog 23 #[.pointer (some ⟨q, 0, none⟩)] w fun e w' => e = .returned (.tuple #[]) ∧ w = w' := by
  have c3 : w.cell? ⟨q, 3, none⟩ = some (.slice A n c) := h.cell 3
  have c4 : w.cell? ⟨q, 4, none⟩ = some (.int .i64 fk) := h.cell 4
  have c5 : w.cell? ⟨q, 5, none⟩ = some (.int .u32 fv) := h.cell 5
  have c6 : w.cell? ⟨q, 6, none⟩ = some (.int .u32 fi) := h.cell 6
  have hn' : ¬ (16 : Int) ≤ n := by omega
  clear h
  go_enter Try.func23, Try.ntmps23
  go_wp2
  first | go_end0 | refine bodyPost_ret (results_none rfl _ _ _) rfl ?_
  exact ⟨rfl, rfl⟩
end Go.Proofs.Ytiogbgjeimdgmaa.MmuWalk
