/- The MMU's entry, walked case by case. -/
import Derived.Test.YtiogbgjeimdgmaaMmuC
namespace Go.Proofs.Ytiogbgjeimdgmaa.MmuWalk
open Go.RowKit Go.Proofs.Ytiogbgjeimdgmaa.Aid Go.Proofs.YtiogbgjeimdgmaaW.PrintWords Go.Proofs.YtiogbgjeimdgmaaW.PrintLast Go.Proofs.YtiogbgjeimdgmaaW.PrintMore
open Go.Proofs.Ytiogbgjeimdgmaa.RamWalk (RamAt Bytes leN leN_bounds get_i get_bus_i)
open Go.Proofs.Ytiogbgjeimdgmaa.TlbWalk (TlbAt Kept2 putP dropP posP entP nil2 get_yes get_no put_call mem_getD)
attribute [local go_sem] max2_int min2_int max_two min_two max_three min_three max_four min_four   -- for this text's walks alone
set_option linter.unusedVariables false
set_option linter.unusedSimpArgs false
theorem m_cell_alloc {w W : World} {base : Nat} {L : Loc} {v : Value} {T : Tabs} {ps : List (Int × Int)} {l : List Int} (h : MmuAt w base L v T ps l) (b : Below w.heap.size w W) (o : Obj) (j : Nat) : (W.alloc o).cell? ⟨L.m, j, none⟩ = (mmuCells L.r L.t T)[j]? := (h.then (below_alloc b o)).cell j
theorem flt3_put {V : World} {g : Nat} {a b c : Value} (h : V.heap[g]? = some (.cells #[a, b, c] 47 (0, 0))) (x y z : Value) : ((((V.setCell ⟨g, 0, none⟩ x).setCell ⟨g, 1, none⟩ y).setCell ⟨g, 2, none⟩ z).drew).heap[g]? = some (.cells #[x, y, z] 47 (0, 0)) :=
  blk_put (blk_put (blk_put h 0 x rfl) 1 y rfl) 2 z rfl
theorem flt3_below {B : Nat} {w V : World} (h : Below B w V) {g : Nat} (hg : B ≤ g) (x y z : Value) : Below B w (((V.setCell ⟨g, 0, none⟩ x).setCell ⟨g, 1, none⟩ y).setCell ⟨g, 2, none⟩ z).drew :=
  (((h.setCell (p := ⟨g, 0, none⟩) hg x).setCell (p := ⟨g, 1, none⟩) hg y).setCell (p := ⟨g, 2, none⟩) hg z).drew
theorem foot_lt {W : World} {base : Nat} {L : Loc} {v : Value} {T : Tabs} {ps : List (Int × Int)} {l : List Int} (h : MmuAt W base L v T ps l) (i : Nat) (f : foot L v i) : i < W.heap.size := by
  rcases f with f | f | f | f
  · rw [f]; exact h.lt
  · rw [f]; exact h.tlb.lt
  · rw [f]; obtain ⟨cur, hb, _⟩ := h.ram.row; exact (Array.getElem?_eq_some_iff.1 hb).1
  · exact (h.tlb.row i f.symm).2.1
/-- A block that was made behind the MMU stays. -/
theorem box_step {w V W : World} {base : Nat} {L : Loc} {v : Value} {T T' : Tabs} {ps ps' : List (Int × Int)} {l l' : List Int} {g : Nat} {o : Obj} (h : MmuAt w base L v T ps l) (hg : V.heap[g]? = some o) (hl : g < V.heap.size) (hw : w.heap.size ≤ g) (s : MStep V.drew W base L v T' ps' l') : W.heap[g]? = some o :=
  (s.chg.block g hl (fun f => by have := foot_lt h g f; omega)).trans hg
theorem row_alloc {W : World} {g : Nat} {cs : Array Value} {t : TypeId} (h : W.heap[g]? = some (.cells cs t (0, 0))) (o : Obj) (j : Nat) : (W.alloc o).cell? ⟨g, j, none⟩ = cs[j]? := cell_of_row _ _ j _ _ _ (row_then h (below_alloc (Below.refl _ _) o))
set_option maxRecDepth 100000 in
set_option maxHeartbeats 2000000 in
theorem entry_a1 (w : World) (base : Nat) (L : Loc) (v : Value) (T : Tabs) (ps : List (Int × Int)) (l : List Int) (va x j : Int) (u wr keep : Bool) (h : MmuAt w base L v T ps l) (GT : Aside0 (∀ W, Below w.heap.size w W → Calls Try.prog 84 #[.pointer (some ⟨L.t, 0, none⟩), .int .u32 (va / 512)] W fun e w' => e = .returned (.tuple #[.int .u32 x, .bool true]) ∧ Below W.heap.size W w')) (PM : Aside0 (∀ W, Calls Try.prog 90 #[.int .u32 x, .bool u, .bool wr] W fun e w' => e = .returned (.bool false) ∧ W = w')) (F : Aside0 (∀ W, Calls Try.prog 83 #[.agg #[.int .u32 va, .bool u, .bool wr], .int .i64 2, .int .u32 0] W fun e w' => e = .returned (.agg #[.int .i64 2, .int .u32 va, .int .u32 j]) ∧ Below W.heap.size W w')) :
    Calls Try.prog 80 #[.pointer (some ⟨L.m, 0, none⟩), .agg #[.int .u32 va, .bool u, .bool wr], .bool keep] w fun e w' => e = .returned (.tuple #[.int .u32 0, .agg #[.int .i64 2, .int .u32 va, .int .u32 j]]) ∧ Below w.heap.size w w' := by
  have M := Aside0.mk h
  clear h
  go_enter Try.func80, Try.ntmps80
  go_wp2
  have BX := box2 w (.cells #[.int .u32 va, .bool u, .bool wr] 118 (0, 0)) (.cells #[.int .i64 0, .int .u32 0, .int .u32 0] 47 (0, 0))
  generalize (w.alloc (.cells #[.int .u32 va, .bool u, .bool wr] 118 (0, 0))).alloc (.cells #[.int .i64 0, .int .u32 0, .int .u32 0] 47 (0, 0)) = W at *
  have hS : Aside0 (∀ W', Below W.heap.size W W' → W'.cell? ⟨L.m, 1, none⟩ = some (.pointer (some ⟨L.t, 0, none⟩)) ∧ W'.cell? ⟨w.heap.size, 0, none⟩ = some (.int .u32 va)) := ⟨fun W' hW => ⟨(M.out.then (below_step BX.1 hW)).cell 1, cell_of_row _ _ 0 _ _ _ (row_then BX.2.1 hW)⟩⟩
  have BX := Aside0.mk BX
  have hS0 := hS.out W (Below.refl _ _)
  go_region_held3 (fun W' => W'.cell? ⟨L.m, 1, none⟩ = some (.pointer (some ⟨L.t, 0, none⟩)) ∧ W'.cell? ⟨w.heap.size, 0, none⟩ = some (.int .u32 va))
    (first | exact hS.out _ (by assumption) | exact hS.out _ ((Below.refl _ _).drew))
    (first
    | (go_at_call 84; (with_reducible refine (GT.out _ (below_step BX.out.1 (Below.refl _ _).drew)).mono ?_); rintro e w1 ⟨rfl, hb⟩; have hb1 : Below W.heap.size W w1 := below_step ((Below.refl _ _).drew) hb))
  have BB := Aside0.mk (below_step BX.out.1 hb1)
  have Z := Aside0.mk (row_then BX.out.2.2 hb1)
  have A := Aside0.mk (row_then BX.out.2.1 hb1)
  have d0 : w1.cell? ⟨w.heap.size, 0, none⟩ = some (.int .u32 va) := cell_of_row _ _ 0 _ _ _ A.out
  have d1 : w1.cell? ⟨w.heap.size, 1, none⟩ = some (.bool u) := cell_of_row _ _ 1 _ _ _ A.out
  have d2 : w1.cell? ⟨w.heap.size, 2, none⟩ = some (.bool wr) := cell_of_row _ _ 2 _ _ _ A.out
  go_wp2_with (first
    | (go_at_call 90; (with_reducible refine (PM.out _).mono ?_); rintro e w4 ⟨rfl, rfl⟩)
    | (go_at_call 83; (with_reducible refine (F.out _).mono ?_); rintro e w6 ⟨rfl, hb⟩; have Z6 := Aside0.mk (row_then Z.out hb); have B6 := Aside0.mk (below_step BB.out hb); clear hb)
    | (refine wpList_store_row rfl 47 (.tmp 7) (.tmp 58) rfl (w.heap.size + 1) #[.int .i64 2, .int .u32 va, .int .u32 j] rfl rfl _ _ Z6.out infoF rfl (by kernel_rfl) ?_))
  refine bodyPost_ret (results_tc rfl _ _ (w.heap.size + 1) 47 #[.int .i64 2, .int .u32 va, .int .u32 j] (0, 0) _ rfl (setRow_heap _ _ _ _ 47 _ Z6.out) Try.underlying47 rfl infoF) rfl ⟨rfl, below_setRow B6.out (by omega) _⟩
set_option maxRecDepth 100000 in
set_option maxHeartbeats 2000000 in
theorem entry_a2 (w : World) (base : Nat) (L : Loc) (v : Value) (T : Tabs) (ps : List (Int × Int)) (l : List Int) (va x j : Int) (u wr keep : Bool) (h : MmuAt w base L v T ps l) (GT : Aside0 (∀ W, Below w.heap.size w W → Calls Try.prog 84 #[.pointer (some ⟨L.t, 0, none⟩), .int .u32 (va / 512)] W fun e w' => e = .returned (.tuple #[.int .u32 x, .bool true]) ∧ Below W.heap.size W w')) (PM : Aside0 (∀ W, Calls Try.prog 90 #[.int .u32 x, .bool u, .bool wr] W fun e w' => e = .returned (.bool true) ∧ W = w')) (PI : Aside0 (∀ W, Calls Try.prog 91 #[.int .u32 x] W fun e w' => e = .returned (.bool false) ∧ W = w')) (F : Aside0 (∀ W, Calls Try.prog 83 #[.agg #[.int .u32 va, .bool u, .bool wr], .int .i64 3, .int .u32 0] W fun e w' => e = .returned (.agg #[.int .i64 3, .int .u32 va, .int .u32 j]) ∧ Below W.heap.size W w')) :
    Calls Try.prog 80 #[.pointer (some ⟨L.m, 0, none⟩), .agg #[.int .u32 va, .bool u, .bool wr], .bool keep] w fun e w' => e = .returned (.tuple #[.int .u32 0, .agg #[.int .i64 3, .int .u32 va, .int .u32 j]]) ∧ Below w.heap.size w w' := by
  have M := Aside0.mk h
  clear h
  go_enter Try.func80, Try.ntmps80
  go_wp2
  have BX := box2 w (.cells #[.int .u32 va, .bool u, .bool wr] 118 (0, 0)) (.cells #[.int .i64 0, .int .u32 0, .int .u32 0] 47 (0, 0))
  generalize (w.alloc (.cells #[.int .u32 va, .bool u, .bool wr] 118 (0, 0))).alloc (.cells #[.int .i64 0, .int .u32 0, .int .u32 0] 47 (0, 0)) = W at *
  have hS : Aside0 (∀ W', Below W.heap.size W W' → W'.cell? ⟨L.m, 1, none⟩ = some (.pointer (some ⟨L.t, 0, none⟩)) ∧ W'.cell? ⟨w.heap.size, 0, none⟩ = some (.int .u32 va)) := ⟨fun W' hW => ⟨(M.out.then (below_step BX.1 hW)).cell 1, cell_of_row _ _ 0 _ _ _ (row_then BX.2.1 hW)⟩⟩
  have BX := Aside0.mk BX
  have hS0 := hS.out W (Below.refl _ _)
  go_region_held3 (fun W' => W'.cell? ⟨L.m, 1, none⟩ = some (.pointer (some ⟨L.t, 0, none⟩)) ∧ W'.cell? ⟨w.heap.size, 0, none⟩ = some (.int .u32 va))
    (first | exact hS.out _ (by assumption) | exact hS.out _ ((Below.refl _ _).drew))
    (first
    | (go_at_call 84; (with_reducible refine (GT.out _ (below_step BX.out.1 (Below.refl _ _).drew)).mono ?_); rintro e w1 ⟨rfl, hb⟩; have hb1 : Below W.heap.size W w1 := below_step ((Below.refl _ _).drew) hb))
  have BB := Aside0.mk (below_step BX.out.1 hb1)
  have Z := Aside0.mk (row_then BX.out.2.2 hb1)
  have A := Aside0.mk (row_then BX.out.2.1 hb1)
  have d0 : w1.cell? ⟨w.heap.size, 0, none⟩ = some (.int .u32 va) := cell_of_row _ _ 0 _ _ _ A.out
  have d1 : w1.cell? ⟨w.heap.size, 1, none⟩ = some (.bool u) := cell_of_row _ _ 1 _ _ _ A.out
  have d2 : w1.cell? ⟨w.heap.size, 2, none⟩ = some (.bool wr) := cell_of_row _ _ 2 _ _ _ A.out
  go_wp2_with (first
    | (go_at_call 90; (with_reducible refine (PM.out _).mono ?_); rintro e w4 ⟨rfl, rfl⟩)
    | (go_at_call 91; (with_reducible refine (PI.out _).mono ?_); rintro e w5 ⟨rfl, rfl⟩)
    | (go_at_call 83; (with_reducible refine (F.out _).mono ?_); rintro e w6 ⟨rfl, hb⟩; have Z6 := Aside0.mk (row_then Z.out hb); have B6 := Aside0.mk (below_step BB.out hb); clear hb)
    | (refine wpList_store_row rfl 47 (.tmp 7) (.tmp 64) rfl (w.heap.size + 1) #[.int .i64 3, .int .u32 va, .int .u32 j] rfl rfl _ _ Z6.out infoF rfl (by kernel_rfl) ?_))
  refine bodyPost_ret (results_tc rfl _ _ (w.heap.size + 1) 47 #[.int .i64 3, .int .u32 va, .int .u32 j] (0, 0) _ rfl (setRow_heap _ _ _ _ 47 _ Z6.out) Try.underlying47 rfl infoF) rfl ⟨rfl, below_setRow B6.out (by omega) _⟩
set_option maxRecDepth 100000 in
set_option maxHeartbeats 2000000 in
theorem entry_a3 (w : World) (base : Nat) (L : Loc) (v : Value) (T : Tabs) (ps : List (Int × Int)) (l : List Int) (va x j : Int) (u wr keep : Bool) (h : MmuAt w base L v T ps l) (GT : Aside0 (∀ W, Below w.heap.size w W → Calls Try.prog 84 #[.pointer (some ⟨L.t, 0, none⟩), .int .u32 (va / 512)] W fun e w' => e = .returned (.tuple #[.int .u32 x, .bool true]) ∧ Below W.heap.size W w')) (PM : Aside0 (∀ W, Calls Try.prog 90 #[.int .u32 x, .bool u, .bool wr] W fun e w' => e = .returned (.bool true) ∧ W = w')) (PI : Aside0 (∀ W, Calls Try.prog 91 #[.int .u32 x] W fun e w' => e = .returned (.bool true) ∧ W = w')) :
    Calls Try.prog 80 #[.pointer (some ⟨L.m, 0, none⟩), .agg #[.int .u32 va, .bool u, .bool wr], .bool keep] w fun e w' => e = .returned (.tuple #[.int .u32 x, .agg #[.int .i64 0, .int .u32 0, .int .u32 0]]) ∧ Below w.heap.size w w' := by
  have M := Aside0.mk h
  clear h
  go_enter Try.func80, Try.ntmps80
  go_wp2
  have BX := box2 w (.cells #[.int .u32 va, .bool u, .bool wr] 118 (0, 0)) (.cells #[.int .i64 0, .int .u32 0, .int .u32 0] 47 (0, 0))
  generalize (w.alloc (.cells #[.int .u32 va, .bool u, .bool wr] 118 (0, 0))).alloc (.cells #[.int .i64 0, .int .u32 0, .int .u32 0] 47 (0, 0)) = W at *
  have hS : Aside0 (∀ W', Below W.heap.size W W' → W'.cell? ⟨L.m, 1, none⟩ = some (.pointer (some ⟨L.t, 0, none⟩)) ∧ W'.cell? ⟨w.heap.size, 0, none⟩ = some (.int .u32 va)) := ⟨fun W' hW => ⟨(M.out.then (below_step BX.1 hW)).cell 1, cell_of_row _ _ 0 _ _ _ (row_then BX.2.1 hW)⟩⟩
  have BX := Aside0.mk BX
  have hS0 := hS.out W (Below.refl _ _)
  go_region_held3 (fun W' => W'.cell? ⟨L.m, 1, none⟩ = some (.pointer (some ⟨L.t, 0, none⟩)) ∧ W'.cell? ⟨w.heap.size, 0, none⟩ = some (.int .u32 va))
    (first | exact hS.out _ (by assumption) | exact hS.out _ ((Below.refl _ _).drew))
    (first
    | (go_at_call 84; (with_reducible refine (GT.out _ (below_step BX.out.1 (Below.refl _ _).drew)).mono ?_); rintro e w1 ⟨rfl, hb⟩; have hb1 : Below W.heap.size W w1 := below_step ((Below.refl _ _).drew) hb))
  have BB := Aside0.mk (below_step BX.out.1 hb1)
  have Z := Aside0.mk (row_then BX.out.2.2 hb1)
  have A := Aside0.mk (row_then BX.out.2.1 hb1)
  have d0 : w1.cell? ⟨w.heap.size, 0, none⟩ = some (.int .u32 va) := cell_of_row _ _ 0 _ _ _ A.out
  have d1 : w1.cell? ⟨w.heap.size, 1, none⟩ = some (.bool u) := cell_of_row _ _ 1 _ _ _ A.out
  have d2 : w1.cell? ⟨w.heap.size, 2, none⟩ = some (.bool wr) := cell_of_row _ _ 2 _ _ _ A.out
  go_wp2_with (first
    | (go_at_call 90; (with_reducible refine (PM.out _).mono ?_); rintro e w4 ⟨rfl, rfl⟩)
    | (go_at_call 91; (with_reducible refine (PI.out _).mono ?_); rintro e w5 ⟨rfl, rfl⟩)
    | (refine wpList_store_row rfl 47 (.tmp 7) (.tmp 80) rfl (w.heap.size + 1) #[.int .i64 0, .int .u32 0, .int .u32 0] rfl rfl _ _ Z.out infoF rfl (by kernel_rfl) ?_))
  refine bodyPost_ret (results_tc rfl _ _ (w.heap.size + 1) 47 #[.int .i64 0, .int .u32 0, .int .u32 0] (0, 0) _ rfl (setRow_heap _ _ _ _ 47 _ Z.out) Try.underlying47 rfl infoF) rfl ⟨rfl, below_setRow BB.out (by omega) _⟩
set_option maxRecDepth 100000 in
set_option maxHeartbeats 2000000 in
theorem entry_b0 (w : World) (base : Nat) (L : Loc) (v : Value) (T : Tabs) (ps : List (Int × Int)) (l : List Int) (va x j : Int) (u wr keep : Bool) (h : MmuAt w base L v T ps l) (at_ y : Int) (GT : Aside0 (∀ W, Below w.heap.size w W → Calls Try.prog 84 #[.pointer (some ⟨L.t, 0, none⟩), .int .u32 (va / 512)] W fun e w' => e = .returned (.tuple #[.int .u32 x, .bool false]) ∧ Below W.heap.size W w')) (PL : Aside0 (∀ W, Below w.heap.size w W → Calls Try.prog 87 #[.pointer (some ⟨L.m, 0, none⟩), .agg #[.int .u32 va, .bool u, .bool wr]] W fun e w' => e = .returned (.tuple #[.int .u32 0, .agg #[.int .i64 2, .int .u32 va, .int .u32 j]]) ∧ Below W.heap.size W w')) :
    Calls Try.prog 80 #[.pointer (some ⟨L.m, 0, none⟩), .agg #[.int .u32 va, .bool u, .bool wr], .bool keep] w fun e w' => e = .returned (.tuple #[.int .u32 0, .agg #[.int .i64 2, .int .u32 va, .int .u32 j]]) ∧ Below w.heap.size w w' := by
  have M := Aside0.mk h
  clear h
  go_enter Try.func80, Try.ntmps80
  go_wp2
  have BX := box2 w (.cells #[.int .u32 va, .bool u, .bool wr] 118 (0, 0)) (.cells #[.int .i64 0, .int .u32 0, .int .u32 0] 47 (0, 0))
  generalize (w.alloc (.cells #[.int .u32 va, .bool u, .bool wr] 118 (0, 0))).alloc (.cells #[.int .i64 0, .int .u32 0, .int .u32 0] 47 (0, 0)) = W at *
  have hS : Aside0 (∀ W', Below W.heap.size W W' → W'.cell? ⟨L.m, 1, none⟩ = some (.pointer (some ⟨L.t, 0, none⟩)) ∧ W'.cell? ⟨w.heap.size, 0, none⟩ = some (.int .u32 va)) := ⟨fun W' hW => ⟨(M.out.then (below_step BX.1 hW)).cell 1, cell_of_row _ _ 0 _ _ _ (row_then BX.2.1 hW)⟩⟩
  have BX := Aside0.mk BX
  have hS0 := hS.out W (Below.refl _ _)
  go_region_held3 (fun W' => W'.cell? ⟨L.m, 1, none⟩ = some (.pointer (some ⟨L.t, 0, none⟩)) ∧ W'.cell? ⟨w.heap.size, 0, none⟩ = some (.int .u32 va))
    (first | exact hS.out _ (by assumption) | exact hS.out _ ((Below.refl _ _).drew))
    (first
    | (go_at_call 84; (with_reducible refine (GT.out _ (below_step BX.out.1 (Below.refl _ _).drew)).mono ?_); rintro e w1 ⟨rfl, hb⟩; have hb1 : Below W.heap.size W w1 := below_step ((Below.refl _ _).drew) hb))
  have BB := Aside0.mk (below_step BX.out.1 hb1)
  have Z := Aside0.mk (row_then BX.out.2.2 hb1)
  have A := Aside0.mk (row_then BX.out.2.1 hb1)
  have d0 : w1.cell? ⟨w.heap.size, 0, none⟩ = some (.int .u32 va) := cell_of_row _ _ 0 _ _ _ A.out
  have d1 : w1.cell? ⟨w.heap.size, 1, none⟩ = some (.bool u) := cell_of_row _ _ 1 _ _ _ A.out
  have d2 : w1.cell? ⟨w.heap.size, 2, none⟩ = some (.bool wr) := cell_of_row _ _ 2 _ _ _ A.out
  go_wp2_with (first
    | (go_at_call 87; (with_reducible refine (PL.out _ BB.out).mono ?_); rintro e w2 ⟨rfl, hb⟩; have A := Aside0.mk (row_then A.out hb); have Z := Aside0.mk (row_then Z.out hb); have BB := Aside0.mk (below_step BB.out hb); have m0 := fun o => (m_cell_alloc M.out BB.out o 0); have m1 := fun o => (m_cell_alloc M.out BB.out o 1); have r0 := fun o => row_alloc A.out o 0; have r1 := fun o => row_alloc A.out o 1; have r2 := fun o => row_alloc A.out o 2; simp only [mmuCells, List.getElem?_toArray, List.getElem?_cons_zero, List.getElem?_cons_succ] at m0 m1 r0 r1 r2; clear hb))
  have Y := heap_alloc_new w2 (.cells #[.int .i64 2, .int .u32 va, .int .u32 j] 47 (0, 0))
  have Zn := row_then Z.out (below_alloc (Below.refl _ _) (.cells #[.int .i64 2, .int .u32 va, .int .u32 j] 47 (0, 0)))
  have Bn := below_alloc BB.out (.cells #[.int .i64 2, .int .u32 va, .int .u32 j] 47 (0, 0))
  generalize w2.alloc (.cells #[.int .i64 2, .int .u32 va, .int .u32 j] 47 (0, 0)) = V at *
  have y0 := cell_of_row _ _ 0 _ _ _ Y
  have y1 := cell_of_row _ _ 1 _ _ _ Y
  have y2 := cell_of_row _ _ 2 _ _ _ Y
  have z0 := cell_of_row _ _ 0 _ _ _ Zn
  have z1 := cell_of_row _ _ 1 _ _ _ Zn
  have z2 := cell_of_row _ _ 2 _ _ _ Zn
  have g0 := frozen_of_row _ _ 0 _ _ Zn
  have g1 := frozen_of_row _ _ 1 _ _ Zn
  have g2 := frozen_of_row _ _ 2 _ _ Zn
  simp only [List.getElem?_toArray, List.getElem?_cons_zero, List.getElem?_cons_succ] at y0 y1 y2 z0 z1 z2
  have hne : ¬ w2.heap.size = w.heap.size + 1 := by have := (Array.getElem?_eq_some_iff.1 Z.out).1; omega
  have Y := Aside0.mk Y
  have Zn := Aside0.mk Zn
  have Bn := Aside0.mk Bn
  go_region
  go_wp2
  refine bodyPost_ret (results_tc rfl _ _ (w.heap.size + 1) 47 #[.int .i64 2, .int .u32 va, .int .u32 j] (0, 0) _ rfl (flt3_put Zn.out _ _ _) Try.underlying47 rfl infoF) rfl ⟨rfl, flt3_below Bn.out (by omega) _ _ _⟩
set_option maxRecDepth 100000 in
set_option maxHeartbeats 2000000 in
theorem entry_b1 (w : World) (base : Nat) (L : Loc) (v : Value) (T : Tabs) (ps : List (Int × Int)) (l : List Int) (va x j : Int) (u wr keep : Bool) (h : MmuAt w base L v T ps l) (at_ y : Int) (GT : Aside0 (∀ W, Below w.heap.size w W → Calls Try.prog 84 #[.pointer (some ⟨L.t, 0, none⟩), .int .u32 (va / 512)] W fun e w' => e = .returned (.tuple #[.int .u32 x, .bool false]) ∧ Below W.heap.size W w')) (PL : Aside0 (∀ W, Below w.heap.size w W → Calls Try.prog 87 #[.pointer (some ⟨L.m, 0, none⟩), .agg #[.int .u32 va, .bool u, .bool wr]] W fun e w' => e = .returned (.tuple #[.int .u32 at_, .agg #[.int .i64 0, .int .u32 0, .int .u32 0]]) ∧ Below W.heap.size W w')) (RG : Aside0 (∀ W, Below w.heap.size w W → Calls Try.prog 41 #[.pointer (some ⟨L.r, 0, none⟩), .int .u32 at_, .int .i64 4] W fun e w' => e = .returned (.tuple #[.int .u32 0, .int .i64 6]) ∧ W = w')) (F : Aside0 (∀ W, Calls Try.prog 83 #[.agg #[.int .u32 va, .bool u, .bool wr], .int .i64 1, .int .u32 0] W fun e w' => e = .returned (.agg #[.int .i64 1, .int .u32 va, .int .u32 j]) ∧ Below W.heap.size W w')) :
    Calls Try.prog 80 #[.pointer (some ⟨L.m, 0, none⟩), .agg #[.int .u32 va, .bool u, .bool wr], .bool keep] w fun e w' => e = .returned (.tuple #[.int .u32 0, .agg #[.int .i64 1, .int .u32 va, .int .u32 j]]) ∧ Below w.heap.size w w' := by
  have M := Aside0.mk h
  clear h
  go_enter Try.func80, Try.ntmps80
  go_wp2
  have BX := box2 w (.cells #[.int .u32 va, .bool u, .bool wr] 118 (0, 0)) (.cells #[.int .i64 0, .int .u32 0, .int .u32 0] 47 (0, 0))
  generalize (w.alloc (.cells #[.int .u32 va, .bool u, .bool wr] 118 (0, 0))).alloc (.cells #[.int .i64 0, .int .u32 0, .int .u32 0] 47 (0, 0)) = W at *
  have hS : Aside0 (∀ W', Below W.heap.size W W' → W'.cell? ⟨L.m, 1, none⟩ = some (.pointer (some ⟨L.t, 0, none⟩)) ∧ W'.cell? ⟨w.heap.size, 0, none⟩ = some (.int .u32 va)) := ⟨fun W' hW => ⟨(M.out.then (below_step BX.1 hW)).cell 1, cell_of_row _ _ 0 _ _ _ (row_then BX.2.1 hW)⟩⟩
  have BX := Aside0.mk BX
  have hS0 := hS.out W (Below.refl _ _)
  go_region_held3 (fun W' => W'.cell? ⟨L.m, 1, none⟩ = some (.pointer (some ⟨L.t, 0, none⟩)) ∧ W'.cell? ⟨w.heap.size, 0, none⟩ = some (.int .u32 va))
    (first | exact hS.out _ (by assumption) | exact hS.out _ ((Below.refl _ _).drew))
    (first
    | (go_at_call 84; (with_reducible refine (GT.out _ (below_step BX.out.1 (Below.refl _ _).drew)).mono ?_); rintro e w1 ⟨rfl, hb⟩; have hb1 : Below W.heap.size W w1 := below_step ((Below.refl _ _).drew) hb))
  have BB := Aside0.mk (below_step BX.out.1 hb1)
  have Z := Aside0.mk (row_then BX.out.2.2 hb1)
  have A := Aside0.mk (row_then BX.out.2.1 hb1)
  have d0 : w1.cell? ⟨w.heap.size, 0, none⟩ = some (.int .u32 va) := cell_of_row _ _ 0 _ _ _ A.out
  have d1 : w1.cell? ⟨w.heap.size, 1, none⟩ = some (.bool u) := cell_of_row _ _ 1 _ _ _ A.out
  have d2 : w1.cell? ⟨w.heap.size, 2, none⟩ = some (.bool wr) := cell_of_row _ _ 2 _ _ _ A.out
  go_wp2_with (first
    | (go_at_call 87; (with_reducible refine (PL.out _ BB.out).mono ?_); rintro e w2 ⟨rfl, hb⟩; have A := Aside0.mk (row_then A.out hb); have Z := Aside0.mk (row_then Z.out hb); have BB := Aside0.mk (below_step BB.out hb); have m0 := fun o => (m_cell_alloc M.out BB.out o 0); have m1 := fun o => (m_cell_alloc M.out BB.out o 1); have r0 := fun o => row_alloc A.out o 0; have r1 := fun o => row_alloc A.out o 1; have r2 := fun o => row_alloc A.out o 2; simp only [mmuCells, List.getElem?_toArray, List.getElem?_cons_zero, List.getElem?_cons_succ] at m0 m1 r0 r1 r2; clear hb)
    | (go_at_call 41; (with_reducible refine (RG.out _ (below_alloc BB.out _)).mono ?_); rintro e w3 ⟨rfl, rfl⟩)
    | (go_at_call 83; (with_reducible refine (F.out _).mono ?_); rintro e w6 ⟨rfl, hb⟩; have Z6 := Aside0.mk (row_then Z.out (below_step (below_alloc (Below.refl _ _) _) hb)); have B6 := Aside0.mk (below_step (below_alloc BB.out _) hb); clear hb)
    | (refine wpList_store_row rfl 47 (.tmp 7) (.tmp 48) rfl (w.heap.size + 1) #[.int .i64 1, .int .u32 va, .int .u32 j] rfl rfl _ _ Z6.out infoF rfl (by kernel_rfl) ?_))
  refine bodyPost_ret (results_tc rfl _ _ (w.heap.size + 1) 47 #[.int .i64 1, .int .u32 va, .int .u32 j] (0, 0) _ rfl (setRow_heap _ _ _ _ 47 _ Z6.out) Try.underlying47 rfl infoF) rfl ⟨rfl, below_setRow B6.out (by omega) _⟩
set_option maxRecDepth 100000 in
set_option maxHeartbeats 2000000 in
theorem entry_b2 (w : World) (base : Nat) (L : Loc) (v : Value) (T : Tabs) (ps : List (Int × Int)) (l : List Int) (va x j : Int) (u wr keep : Bool) (h : MmuAt w base L v T ps l) (at_ y : Int) (GT : Aside0 (∀ W, Below w.heap.size w W → Calls Try.prog 84 #[.pointer (some ⟨L.t, 0, none⟩), .int .u32 (va / 512)] W fun e w' => e = .returned (.tuple #[.int .u32 y, .bool false]) ∧ Below W.heap.size W w')) (PL : Aside0 (∀ W, Below w.heap.size w W → Calls Try.prog 87 #[.pointer (some ⟨L.m, 0, none⟩), .agg #[.int .u32 va, .bool u, .bool wr]] W fun e w' => e = .returned (.tuple #[.int .u32 at_, .agg #[.int .i64 0, .int .u32 0, .int .u32 0]]) ∧ Below W.heap.size W w')) (RG : Aside0 (∀ W, Below w.heap.size w W → Calls Try.prog 41 #[.pointer (some ⟨L.r, 0, none⟩), .int .u32 at_, .int .i64 4] W fun e w' => e = .returned (.tuple #[.int .u32 x, .int .i64 0]) ∧ W = w')) (PM : Aside0 (∀ W, Calls Try.prog 90 #[.int .u32 x, .bool u, .bool wr] W fun e w' => e = .returned (.bool false) ∧ W = w')) (F : Aside0 (∀ W, Calls Try.prog 83 #[.agg #[.int .u32 va, .bool u, .bool wr], .int .i64 2, .int .u32 0] W fun e w' => e = .returned (.agg #[.int .i64 2, .int .u32 va, .int .u32 j]) ∧ Below W.heap.size W w')) :
    Calls Try.prog 80 #[.pointer (some ⟨L.m, 0, none⟩), .agg #[.int .u32 va, .bool u, .bool wr], .bool keep] w fun e w' => e = .returned (.tuple #[.int .u32 0, .agg #[.int .i64 2, .int .u32 va, .int .u32 j]]) ∧ Below w.heap.size w w' := by
  have M := Aside0.mk h
  clear h
  go_enter Try.func80, Try.ntmps80
  go_wp2
  have BX := box2 w (.cells #[.int .u32 va, .bool u, .bool wr] 118 (0, 0)) (.cells #[.int .i64 0, .int .u32 0, .int .u32 0] 47 (0, 0))
  generalize (w.alloc (.cells #[.int .u32 va, .bool u, .bool wr] 118 (0, 0))).alloc (.cells #[.int .i64 0, .int .u32 0, .int .u32 0] 47 (0, 0)) = W at *
  have hS : Aside0 (∀ W', Below W.heap.size W W' → W'.cell? ⟨L.m, 1, none⟩ = some (.pointer (some ⟨L.t, 0, none⟩)) ∧ W'.cell? ⟨w.heap.size, 0, none⟩ = some (.int .u32 va)) := ⟨fun W' hW => ⟨(M.out.then (below_step BX.1 hW)).cell 1, cell_of_row _ _ 0 _ _ _ (row_then BX.2.1 hW)⟩⟩
  have BX := Aside0.mk BX
  have hS0 := hS.out W (Below.refl _ _)
  go_region_held3 (fun W' => W'.cell? ⟨L.m, 1, none⟩ = some (.pointer (some ⟨L.t, 0, none⟩)) ∧ W'.cell? ⟨w.heap.size, 0, none⟩ = some (.int .u32 va))
    (first | exact hS.out _ (by assumption) | exact hS.out _ ((Below.refl _ _).drew))
    (first
    | (go_at_call 84; (with_reducible refine (GT.out _ (below_step BX.out.1 (Below.refl _ _).drew)).mono ?_); rintro e w1 ⟨rfl, hb⟩; have hb1 : Below W.heap.size W w1 := below_step ((Below.refl _ _).drew) hb))
  have BB := Aside0.mk (below_step BX.out.1 hb1)
  have Z := Aside0.mk (row_then BX.out.2.2 hb1)
  have A := Aside0.mk (row_then BX.out.2.1 hb1)
  have d0 : w1.cell? ⟨w.heap.size, 0, none⟩ = some (.int .u32 va) := cell_of_row _ _ 0 _ _ _ A.out
  have d1 : w1.cell? ⟨w.heap.size, 1, none⟩ = some (.bool u) := cell_of_row _ _ 1 _ _ _ A.out
  have d2 : w1.cell? ⟨w.heap.size, 2, none⟩ = some (.bool wr) := cell_of_row _ _ 2 _ _ _ A.out
  go_wp2_with (first
    | (go_at_call 87; (with_reducible refine (PL.out _ BB.out).mono ?_); rintro e w2 ⟨rfl, hb⟩; have A := Aside0.mk (row_then A.out hb); have Z := Aside0.mk (row_then Z.out hb); have BB := Aside0.mk (below_step BB.out hb); have m0 := fun o => (m_cell_alloc M.out BB.out o 0); have m1 := fun o => (m_cell_alloc M.out BB.out o 1); have r0 := fun o => row_alloc A.out o 0; have r1 := fun o => row_alloc A.out o 1; have r2 := fun o => row_alloc A.out o 2; simp only [mmuCells, List.getElem?_toArray, List.getElem?_cons_zero, List.getElem?_cons_succ] at m0 m1 r0 r1 r2; clear hb)
    | (go_at_call 41; (with_reducible refine (RG.out _ (below_alloc BB.out _)).mono ?_); rintro e w3 ⟨rfl, rfl⟩)
    | (go_at_call 90; (with_reducible refine (PM.out _).mono ?_); rintro e w4 ⟨rfl, rfl⟩)
    | (go_at_call 83; (with_reducible refine (F.out _).mono ?_); rintro e w6 ⟨rfl, hb⟩; have Z6 := Aside0.mk (row_then Z.out (below_step (below_alloc (Below.refl _ _) _) hb)); have B6 := Aside0.mk (below_step (below_alloc BB.out _) hb); clear hb)
    | (refine wpList_store_row rfl 47 (.tmp 7) (.tmp 58) rfl (w.heap.size + 1) #[.int .i64 2, .int .u32 va, .int .u32 j] rfl rfl _ _ Z6.out infoF rfl (by kernel_rfl) ?_))
  refine bodyPost_ret (results_tc rfl _ _ (w.heap.size + 1) 47 #[.int .i64 2, .int .u32 va, .int .u32 j] (0, 0) _ rfl (setRow_heap _ _ _ _ 47 _ Z6.out) Try.underlying47 rfl infoF) rfl ⟨rfl, below_setRow B6.out (by omega) _⟩
set_option maxRecDepth 100000 in
set_option maxHeartbeats 2000000 in
theorem entry_b3 (w : World) (base : Nat) (L : Loc) (v : Value) (T : Tabs) (ps : List (Int × Int)) (l : List Int) (va x j : Int) (u wr keep : Bool) (h : MmuAt w base L v T ps l) (at_ y : Int) (GT : Aside0 (∀ W, Below w.heap.size w W → Calls Try.prog 84 #[.pointer (some ⟨L.t, 0, none⟩), .int .u32 (va / 512)] W fun e w' => e = .returned (.tuple #[.int .u32 y, .bool false]) ∧ Below W.heap.size W w')) (PL : Aside0 (∀ W, Below w.heap.size w W → Calls Try.prog 87 #[.pointer (some ⟨L.m, 0, none⟩), .agg #[.int .u32 va, .bool u, .bool wr]] W fun e w' => e = .returned (.tuple #[.int .u32 at_, .agg #[.int .i64 0, .int .u32 0, .int .u32 0]]) ∧ Below W.heap.size W w')) (RG : Aside0 (∀ W, Below w.heap.size w W → Calls Try.prog 41 #[.pointer (some ⟨L.r, 0, none⟩), .int .u32 at_, .int .i64 4] W fun e w' => e = .returned (.tuple #[.int .u32 x, .int .i64 0]) ∧ W = w')) (PM : Aside0 (∀ W, Calls Try.prog 90 #[.int .u32 x, .bool u, .bool wr] W fun e w' => e = .returned (.bool true) ∧ W = w')) (PI : Aside0 (∀ W, Calls Try.prog 91 #[.int .u32 x] W fun e w' => e = .returned (.bool false) ∧ W = w')) (F : Aside0 (∀ W, Calls Try.prog 83 #[.agg #[.int .u32 va, .bool u, .bool wr], .int .i64 3, .int .u32 0] W fun e w' => e = .returned (.agg #[.int .i64 3, .int .u32 va, .int .u32 j]) ∧ Below W.heap.size W w')) :
    Calls Try.prog 80 #[.pointer (some ⟨L.m, 0, none⟩), .agg #[.int .u32 va, .bool u, .bool wr], .bool keep] w fun e w' => e = .returned (.tuple #[.int .u32 0, .agg #[.int .i64 3, .int .u32 va, .int .u32 j]]) ∧ Below w.heap.size w w' := by
  have M := Aside0.mk h
  clear h
  go_enter Try.func80, Try.ntmps80
  go_wp2
  have BX := box2 w (.cells #[.int .u32 va, .bool u, .bool wr] 118 (0, 0)) (.cells #[.int .i64 0, .int .u32 0, .int .u32 0] 47 (0, 0))
  generalize (w.alloc (.cells #[.int .u32 va, .bool u, .bool wr] 118 (0, 0))).alloc (.cells #[.int .i64 0, .int .u32 0, .int .u32 0] 47 (0, 0)) = W at *
  have hS : Aside0 (∀ W', Below W.heap.size W W' → W'.cell? ⟨L.m, 1, none⟩ = some (.pointer (some ⟨L.t, 0, none⟩)) ∧ W'.cell? ⟨w.heap.size, 0, none⟩ = some (.int .u32 va)) := ⟨fun W' hW => ⟨(M.out.then (below_step BX.1 hW)).cell 1, cell_of_row _ _ 0 _ _ _ (row_then BX.2.1 hW)⟩⟩
  have BX := Aside0.mk BX
  have hS0 := hS.out W (Below.refl _ _)
  go_region_held3 (fun W' => W'.cell? ⟨L.m, 1, none⟩ = some (.pointer (some ⟨L.t, 0, none⟩)) ∧ W'.cell? ⟨w.heap.size, 0, none⟩ = some (.int .u32 va))
    (first | exact hS.out _ (by assumption) | exact hS.out _ ((Below.refl _ _).drew))
    (first
    | (go_at_call 84; (with_reducible refine (GT.out _ (below_step BX.out.1 (Below.refl _ _).drew)).mono ?_); rintro e w1 ⟨rfl, hb⟩; have hb1 : Below W.heap.size W w1 := below_step ((Below.refl _ _).drew) hb))
  have BB := Aside0.mk (below_step BX.out.1 hb1)
  have Z := Aside0.mk (row_then BX.out.2.2 hb1)
  have A := Aside0.mk (row_then BX.out.2.1 hb1)
  have d0 : w1.cell? ⟨w.heap.size, 0, none⟩ = some (.int .u32 va) := cell_of_row _ _ 0 _ _ _ A.out
  have d1 : w1.cell? ⟨w.heap.size, 1, none⟩ = some (.bool u) := cell_of_row _ _ 1 _ _ _ A.out
  have d2 : w1.cell? ⟨w.heap.size, 2, none⟩ = some (.bool wr) := cell_of_row _ _ 2 _ _ _ A.out
  go_wp2_with (first
    | (go_at_call 87; (with_reducible refine (PL.out _ BB.out).mono ?_); rintro e w2 ⟨rfl, hb⟩; have A := Aside0.mk (row_then A.out hb); have Z := Aside0.mk (row_then Z.out hb); have BB := Aside0.mk (below_step BB.out hb); have m0 := fun o => (m_cell_alloc M.out BB.out o 0); have m1 := fun o => (m_cell_alloc M.out BB.out o 1); have r0 := fun o => row_alloc A.out o 0; have r1 := fun o => row_alloc A.out o 1; have r2 := fun o => row_alloc A.out o 2; simp only [mmuCells, List.getElem?_toArray, List.getElem?_cons_zero, List.getElem?_cons_succ] at m0 m1 r0 r1 r2; clear hb)
    | (go_at_call 41; (with_reducible refine (RG.out _ (below_alloc BB.out _)).mono ?_); rintro e w3 ⟨rfl, rfl⟩)
    | (go_at_call 90; (with_reducible refine (PM.out _).mono ?_); rintro e w4 ⟨rfl, rfl⟩)
    | (go_at_call 91; (with_reducible refine (PI.out _).mono ?_); rintro e w5 ⟨rfl, rfl⟩)
    | (go_at_call 83; (with_reducible refine (F.out _).mono ?_); rintro e w6 ⟨rfl, hb⟩; have Z6 := Aside0.mk (row_then Z.out (below_step (below_alloc (Below.refl _ _) _) hb)); have B6 := Aside0.mk (below_step (below_alloc BB.out _) hb); clear hb)
    | (refine wpList_store_row rfl 47 (.tmp 7) (.tmp 64) rfl (w.heap.size + 1) #[.int .i64 3, .int .u32 va, .int .u32 j] rfl rfl _ _ Z6.out infoF rfl (by kernel_rfl) ?_))
  refine bodyPost_ret (results_tc rfl _ _ (w.heap.size + 1) 47 #[.int .i64 3, .int .u32 va, .int .u32 j] (0, 0) _ rfl (setRow_heap _ _ _ _ 47 _ Z6.out) Try.underlying47 rfl infoF) rfl ⟨rfl, below_setRow B6.out (by omega) _⟩
set_option maxRecDepth 100000 in
set_option maxHeartbeats 2000000 in
theorem entry_b4 (w : World) (base : Nat) (L : Loc) (v : Value) (T : Tabs) (ps : List (Int × Int)) (l : List Int) (va x j : Int) (u wr keep : Bool) (h : MmuAt w base L v T ps l) (at_ y : Int) (GT : Aside0 (∀ W, Below w.heap.size w W → Calls Try.prog 84 #[.pointer (some ⟨L.t, 0, none⟩), .int .u32 (va / 512)] W fun e w' => e = .returned (.tuple #[.int .u32 y, .bool false]) ∧ Below W.heap.size W w')) (PL : Aside0 (∀ W, Below w.heap.size w W → Calls Try.prog 87 #[.pointer (some ⟨L.m, 0, none⟩), .agg #[.int .u32 va, .bool u, .bool wr]] W fun e w' => e = .returned (.tuple #[.int .u32 at_, .agg #[.int .i64 0, .int .u32 0, .int .u32 0]]) ∧ Below W.heap.size W w')) (RG : Aside0 (∀ W, Below w.heap.size w W → Calls Try.prog 41 #[.pointer (some ⟨L.r, 0, none⟩), .int .u32 at_, .int .i64 4] W fun e w' => e = .returned (.tuple #[.int .u32 x, .int .i64 0]) ∧ W = w')) (PM : Aside0 (∀ W, Calls Try.prog 90 #[.int .u32 x, .bool u, .bool wr] W fun e w' => e = .returned (.bool true) ∧ W = w')) (PI : Aside0 (∀ W, Calls Try.prog 91 #[.int .u32 x] W fun e w' => e = .returned (.bool true) ∧ W = w')) :
    Calls Try.prog 80 #[.pointer (some ⟨L.m, 0, none⟩), .agg #[.int .u32 va, .bool u, .bool wr], .bool false] w fun e w' => e = .returned (.tuple #[.int .u32 x, .agg #[.int .i64 0, .int .u32 0, .int .u32 0]]) ∧ Below w.heap.size w w' := by
  have M := Aside0.mk h
  clear h
  go_enter Try.func80, Try.ntmps80
  go_wp2
  have BX := box2 w (.cells #[.int .u32 va, .bool u, .bool wr] 118 (0, 0)) (.cells #[.int .i64 0, .int .u32 0, .int .u32 0] 47 (0, 0))
  generalize (w.alloc (.cells #[.int .u32 va, .bool u, .bool wr] 118 (0, 0))).alloc (.cells #[.int .i64 0, .int .u32 0, .int .u32 0] 47 (0, 0)) = W at *
  have hS : Aside0 (∀ W', Below W.heap.size W W' → W'.cell? ⟨L.m, 1, none⟩ = some (.pointer (some ⟨L.t, 0, none⟩)) ∧ W'.cell? ⟨w.heap.size, 0, none⟩ = some (.int .u32 va)) := ⟨fun W' hW => ⟨(M.out.then (below_step BX.1 hW)).cell 1, cell_of_row _ _ 0 _ _ _ (row_then BX.2.1 hW)⟩⟩
  have BX := Aside0.mk BX
  have hS0 := hS.out W (Below.refl _ _)
  go_region_held3 (fun W' => W'.cell? ⟨L.m, 1, none⟩ = some (.pointer (some ⟨L.t, 0, none⟩)) ∧ W'.cell? ⟨w.heap.size, 0, none⟩ = some (.int .u32 va))
    (first | exact hS.out _ (by assumption) | exact hS.out _ ((Below.refl _ _).drew))
    (first
    | (go_at_call 84; (with_reducible refine (GT.out _ (below_step BX.out.1 (Below.refl _ _).drew)).mono ?_); rintro e w1 ⟨rfl, hb⟩; have hb1 : Below W.heap.size W w1 := below_step ((Below.refl _ _).drew) hb))
  have BB := Aside0.mk (below_step BX.out.1 hb1)
  have Z := Aside0.mk (row_then BX.out.2.2 hb1)
  have A := Aside0.mk (row_then BX.out.2.1 hb1)
  have d0 : w1.cell? ⟨w.heap.size, 0, none⟩ = some (.int .u32 va) := cell_of_row _ _ 0 _ _ _ A.out
  have d1 : w1.cell? ⟨w.heap.size, 1, none⟩ = some (.bool u) := cell_of_row _ _ 1 _ _ _ A.out
  have d2 : w1.cell? ⟨w.heap.size, 2, none⟩ = some (.bool wr) := cell_of_row _ _ 2 _ _ _ A.out
  go_wp2_with (first
    | (go_at_call 87; (with_reducible refine (PL.out _ BB.out).mono ?_); rintro e w2 ⟨rfl, hb⟩; have A := Aside0.mk (row_then A.out hb); have Z := Aside0.mk (row_then Z.out hb); have BB := Aside0.mk (below_step BB.out hb); have m0 := fun o => (m_cell_alloc M.out BB.out o 0); have m1 := fun o => (m_cell_alloc M.out BB.out o 1); have r0 := fun o => row_alloc A.out o 0; have r1 := fun o => row_alloc A.out o 1; have r2 := fun o => row_alloc A.out o 2; simp only [mmuCells, List.getElem?_toArray, List.getElem?_cons_zero, List.getElem?_cons_succ] at m0 m1 r0 r1 r2; clear hb)
    | (go_at_call 41; (with_reducible refine (RG.out _ (below_alloc BB.out _)).mono ?_); rintro e w3 ⟨rfl, rfl⟩)
    | (go_at_call 90; (with_reducible refine (PM.out _).mono ?_); rintro e w4 ⟨rfl, rfl⟩)
    | (go_at_call 91; (with_reducible refine (PI.out _).mono ?_); rintro e w5 ⟨rfl, rfl⟩)
    | (refine wpList_store_row rfl 47 (.tmp 7) (.tmp 80) rfl (w.heap.size + 1) #[.int .i64 0, .int .u32 0, .int .u32 0] rfl rfl _ _ (row_then Z.out (below_alloc (Below.refl _ _) _)) infoF rfl (by kernel_rfl) ?_))
  refine bodyPost_ret (results_tc rfl _ _ (w.heap.size + 1) 47 #[.int .i64 0, .int .u32 0, .int .u32 0] (0, 0) _ rfl (setRow_heap _ _ _ _ 47 _ (row_then Z.out (below_alloc (Below.refl _ _) _))) Try.underlying47 rfl infoF) rfl ⟨rfl, below_setRow (below_alloc BB.out _) (by omega) _⟩
set_option maxRecDepth 100000 in
set_option maxHeartbeats 2000000 in
theorem entry_b5 (w : World) (base : Nat) (L : Loc) (v : Value) (T : Tabs) (ps : List (Int × Int)) (l : List Int) (va x j : Int) (u wr keep : Bool) (h : MmuAt w base L v T ps l) (at_ y : Int) (GT : Aside0 (∀ W, Below w.heap.size w W → Calls Try.prog 84 #[.pointer (some ⟨L.t, 0, none⟩), .int .u32 (va / 512)] W fun e w' => e = .returned (.tuple #[.int .u32 y, .bool false]) ∧ Below W.heap.size W w')) (PL : Aside0 (∀ W, Below w.heap.size w W → Calls Try.prog 87 #[.pointer (some ⟨L.m, 0, none⟩), .agg #[.int .u32 va, .bool u, .bool wr]] W fun e w' => e = .returned (.tuple #[.int .u32 at_, .agg #[.int .i64 0, .int .u32 0, .int .u32 0]]) ∧ Below W.heap.size W w')) (RG : Aside0 (∀ W, Below w.heap.size w W → Calls Try.prog 41 #[.pointer (some ⟨L.r, 0, none⟩), .int .u32 at_, .int .i64 4] W fun e w' => e = .returned (.tuple #[.int .u32 x, .int .i64 0]) ∧ W = w')) (PM : Aside0 (∀ W, Calls Try.prog 90 #[.int .u32 x, .bool u, .bool wr] W fun e w' => e = .returned (.bool true) ∧ W = w')) (PI : Aside0 (∀ W, Calls Try.prog 91 #[.int .u32 x] W fun e w' => e = .returned (.bool true) ∧ W = w')) (HE : Aside0 (∀ p ∈ putP (va / 512) x ps, (0 ≤ p.1 ∧ p.1 < 8388608) ∧ 0 ≤ p.2 ∧ p.2 < 4294967296)) :
    Calls Try.prog 80 #[.pointer (some ⟨L.m, 0, none⟩), .agg #[.int .u32 va, .bool u, .bool wr], .bool true] w fun e w' => e = .returned (.tuple #[.int .u32 x, .agg #[.int .i64 0, .int .u32 0, .int .u32 0]]) ∧ MStep w w' base L v T (putP (va / 512) x ps) l := by
  have M := Aside0.mk h
  clear h
  go_enter Try.func80, Try.ntmps80
  go_wp2
  have BX := box2 w (.cells #[.int .u32 va, .bool u, .bool wr] 118 (0, 0)) (.cells #[.int .i64 0, .int .u32 0, .int .u32 0] 47 (0, 0))
  generalize (w.alloc (.cells #[.int .u32 va, .bool u, .bool wr] 118 (0, 0))).alloc (.cells #[.int .i64 0, .int .u32 0, .int .u32 0] 47 (0, 0)) = W at *
  have hS : Aside0 (∀ W', Below W.heap.size W W' → W'.cell? ⟨L.m, 1, none⟩ = some (.pointer (some ⟨L.t, 0, none⟩)) ∧ W'.cell? ⟨w.heap.size, 0, none⟩ = some (.int .u32 va)) := ⟨fun W' hW => ⟨(M.out.then (below_step BX.1 hW)).cell 1, cell_of_row _ _ 0 _ _ _ (row_then BX.2.1 hW)⟩⟩
  have BX := Aside0.mk BX
  have hS0 := hS.out W (Below.refl _ _)
  go_region_held3 (fun W' => W'.cell? ⟨L.m, 1, none⟩ = some (.pointer (some ⟨L.t, 0, none⟩)) ∧ W'.cell? ⟨w.heap.size, 0, none⟩ = some (.int .u32 va))
    (first | exact hS.out _ (by assumption) | exact hS.out _ ((Below.refl _ _).drew))
    (first
    | (go_at_call 84; (with_reducible refine (GT.out _ (below_step BX.out.1 (Below.refl _ _).drew)).mono ?_); rintro e w1 ⟨rfl, hb⟩; have hb1 : Below W.heap.size W w1 := below_step ((Below.refl _ _).drew) hb))
  have BB := Aside0.mk (below_step BX.out.1 hb1)
  have Z := Aside0.mk (row_then BX.out.2.2 hb1)
  have A := Aside0.mk (row_then BX.out.2.1 hb1)
  have d0 : w1.cell? ⟨w.heap.size, 0, none⟩ = some (.int .u32 va) := cell_of_row _ _ 0 _ _ _ A.out
  have d1 : w1.cell? ⟨w.heap.size, 1, none⟩ = some (.bool u) := cell_of_row _ _ 1 _ _ _ A.out
  have d2 : w1.cell? ⟨w.heap.size, 2, none⟩ = some (.bool wr) := cell_of_row _ _ 2 _ _ _ A.out
  go_wp2_with (first
    | (go_at_call 87; (with_reducible refine (PL.out _ BB.out).mono ?_); rintro e w2 ⟨rfl, hb⟩; have A := Aside0.mk (row_then A.out hb); have Z := Aside0.mk (row_then Z.out hb); have BB := Aside0.mk (below_step BB.out hb); have m0 := fun o => (m_cell_alloc M.out BB.out o 0); have m1 := fun o => (m_cell_alloc M.out BB.out o 1); have r0 := fun o => row_alloc A.out o 0; have r1 := fun o => row_alloc A.out o 1; have r2 := fun o => row_alloc A.out o 2; simp only [mmuCells, List.getElem?_toArray, List.getElem?_cons_zero, List.getElem?_cons_succ] at m0 m1 r0 r1 r2; clear hb)
    | (go_at_call 41; (with_reducible refine (RG.out _ (below_alloc BB.out _)).mono ?_); rintro e w3 ⟨rfl, rfl⟩)
    | (go_at_call 90; (with_reducible refine (PM.out _).mono ?_); rintro e w4 ⟨rfl, rfl⟩)
    | (go_at_call 91; (with_reducible refine (PI.out _).mono ?_); rintro e w5 ⟨rfl, rfl⟩))
  have XX := Aside0.mk (below_alloc BB.out (.cells #[.int .i64 0, .int .u32 0, .int .u32 0] 47 (0, 0)))
  have Zn := Aside0.mk (row_then Z.out (below_alloc (Below.refl _ _) (.cells #[.int .i64 0, .int .u32 0, .int .u32 0] 47 (0, 0))))
  have An := Aside0.mk (row_then A.out (below_alloc (Below.refl _ _) (.cells #[.int .i64 0, .int .u32 0, .int .u32 0] 47 (0, 0))))
  generalize w2.alloc (.cells #[.int .i64 0, .int .u32 0, .int .u32 0] 47 (0, 0)) = V at *
  have MV := Aside0.mk (M.out.then XX.out)
  have hT : Aside0 (∀ W', Below V.heap.size V W' → W'.cell? ⟨L.m, 1, none⟩ = some (.pointer (some ⟨L.t, 0, none⟩)) ∧ W'.cell? ⟨w.heap.size, 0, none⟩ = some (.int .u32 va)) := ⟨fun W' hW => ⟨(MV.out.then hW).cell 1, cell_of_row _ _ 0 _ _ _ (row_then An.out hW)⟩⟩
  have hT0 := hT.out V (Below.refl _ _)
  have NE := Aside0.mk MV.out.m_ne
  go_region_held3 (fun W' => W'.cell? ⟨L.m, 1, none⟩ = some (.pointer (some ⟨L.t, 0, none⟩)) ∧ W'.cell? ⟨w.heap.size, 0, none⟩ = some (.int .u32 va))
    (first | exact hT.out _ (by assumption) | exact hT.out _ ((Below.refl _ _).drew) | exact hT2.out)
    (first
    | (go_at_call 86; (with_reducible refine (put_call _ _ _ _ _ (va / 512) x (MV.out.then ((Below.refl _ _).drew)).tlb).mono ?_); rintro e w7 ⟨rfl, v7, h7, k7, n7⟩; have S7 := Aside0.mk ((MV.out.then ((Below.refl _ _).drew)).tlb_step h7 k7 (NextRow.of_or n7) HE.out); have hT2 : Aside0 (w7.cell? ⟨L.m, 1, none⟩ = some (.pointer (some ⟨L.t, 0, none⟩)) ∧ w7.cell? ⟨w.heap.size, 0, none⟩ = some (.int .u32 va)) := ⟨by obtain ⟨v8, h8, _⟩ := S7.out.at_; exact ⟨h8.cell 1, cell_of_row _ _ 0 _ _ _ (box_step M.out An.out (by have := (Array.getElem?_eq_some_iff.1 An.out).1; exact this) (Nat.le_refl _) S7.out)⟩⟩; have Z7 := Aside0.mk (box_step M.out Zn.out (by have := (Array.getElem?_eq_some_iff.1 Zn.out).1; exact this) (by omega) S7.out); clear h7 k7 n7))
  go_wp2_with (first
    | (refine wpList_store_row rfl 47 (.tmp 7) (.tmp 80) rfl (w.heap.size + 1) #[.int .i64 0, .int .u32 0, .int .u32 0] rfl rfl _ _ Z7.out infoF rfl (by kernel_rfl) ?_))
  refine bodyPost_ret (results_tc rfl _ _ (w.heap.size + 1) 47 #[.int .i64 0, .int .u32 0, .int .u32 0] (0, 0) _ rfl (setRow_heap _ _ _ _ 47 _ Z7.out) Try.underlying47 rfl infoF) rfl ⟨rfl, MStep.setRow (MStep.after (XX.out.drew) S7.out) (Nat.le_succ _) Z7.out (by unfold mTy; decide) _⟩
end Go.Proofs.Ytiogbgjeimdgmaa.MmuWalk
