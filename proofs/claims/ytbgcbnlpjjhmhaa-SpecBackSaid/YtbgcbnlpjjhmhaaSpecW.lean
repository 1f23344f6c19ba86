/- SpecBack: Encode of a number at hand alone, walked. -/
import Derived.Test.YtbgcbnlpjjhmhaaSpecV
namespace Go.Proofs.Ytbgcbnlpjjhmhaa.SpecWalk
open Go.RowKit Go.Proofs.Ytbgcbnlpjjhmhaa.Aid Go.Proofs.Ytbgcbnlpjjhmhaa.Pure Go.Proofs.Ytbgcbnlpjjhmhaa.GSpecSizes Go.Proofs.YtbgcbnlpjjhmhaaW.PrintWords Go.Proofs.YtbgcbnlpjjhmhaaW.PrintLast Go.Proofs.YtbgcbnlpjjhmhaaW.PrintMore
attribute [local go_sem] max2_int min2_int max_two min_two max_three min_three max_four min_four   -- for this text's walks alone
set_option linter.unusedVariables false
set_option linter.unusedSimpArgs false
/-- What Encode hands back. -/
def EPost (w : World) (o : Option (List Int)) (e : Ending) (w' : World) : Prop :=
  match o with
  | none => e = .returned (.tuple #[.slice none 0 0, .int .i64 1]) ∧ Below w.heap.size w w'
  | some l => ∃ A c, e = .returned (.tuple #[.slice A l.length c, .int .i64 0]) ∧ Below w.heap.size w w' ∧ w'.ownsRow w.heap.size 5 1 (.slice A l.length c) l.length (nums .u8 l)
/-- The boxes of Encode's arguments stay as they are. -/
structure ECell (W : World) (g : Nat) (kd reg idx val by_ acc n : Int) : Prop where
  r : W.heap[g]? = some (.cells #[.int .i64 kd, .int .i64 reg, .int .i64 idx, .int .u32 val, .int .i64 by_] 66 (0, 0))
  s : W.heap[g + 1]? = some (.cells #[.int .u8 acc, .int .i64 n] 64 (0, 0))
theorem ECell.then {W W' : World} {g : Nat} {kd reg idx val by_ acc n : Int} (h : ECell W g kd reg idx val by_ acc n) (b : Below W.heap.size W W') : ECell W' g kd reg idx val by_ acc n :=
  ⟨(b.block g (Array.getElem?_eq_some_iff.1 h.r).1).trans h.r, (b.block (g + 1) (Array.getElem?_eq_some_iff.1 h.s).1).trans h.s⟩
theorem ECell.cells {W : World} {g : Nat} {kd reg idx val by_ acc n : Int} (h : ECell W g kd reg idx val by_ acc n) : W.cell? ⟨g, 0, none⟩ = some (.int .i64 kd) ∧ W.cell? ⟨g, 1, none⟩ = some (.int .i64 reg) ∧ W.cell? ⟨g, 2, none⟩ = some (.int .i64 idx) ∧ W.cell? ⟨g, 3, none⟩ = some (.int .u32 val) ∧ W.cell? ⟨g, 4, none⟩ = some (.int .i64 by_) ∧ W.cell? ⟨g + 1, 0, none⟩ = some (.int .u8 acc) ∧ W.cell? ⟨g + 1, 1, none⟩ = some (.int .i64 n) :=
  ⟨cell_of_row _ _ 0 _ _ _ h.r, cell_of_row _ _ 1 _ _ _ h.r, cell_of_row _ _ 2 _ _ _ h.r, cell_of_row _ _ 3 _ _ _ h.r, cell_of_row _ _ 4 _ _ _ h.r, cell_of_row _ _ 0 _ _ _ h.s, cell_of_row _ _ 1 _ _ _ h.s⟩
/-- Both arguments in their boxes. -/
theorem boxes (w : World) (kd reg idx val by_ acc n : Int) : ∃ W, (w.alloc (.cells #[.int .i64 kd, .int .i64 reg, .int .i64 idx, .int .u32 val, .int .i64 by_] 66 (0, 0))).alloc (.cells #[.int .u8 acc, .int .i64 n] 64 (0, 0)) = W ∧ W.heap.size = w.heap.size + 2 ∧ Below w.heap.size w W ∧ ECell W w.heap.size kd reg idx val by_ acc n := by
  refine ⟨_, rfl, by simp, below_alloc (below_alloc (Below.refl _ _) _) _, ?_, ?_⟩
  · exact ((below_alloc (Below.refl _ _) _).block w.heap.size (by simp)).trans (heap_alloc_new w _)
  · have := heap_alloc_new (w.alloc (.cells #[.int .i64 kd, .int .i64 reg, .int .i64 idx, .int .u32 val, .int .i64 by_] 66 (0, 0))) (.cells #[.int .u8 acc, .int .i64 n] 64 (0, 0))
    rwa [show (w.alloc (.cells #[.int .i64 kd, .int .i64 reg, .int .i64 idx, .int .u32 val, .int .i64 by_] 66 (0, 0))).heap.size = w.heap.size + 1 from by simp] at this
set_option maxRecDepth 100000 in
set_option maxHeartbeats 4000000 in
theorem encb_kd (w : World) (kd reg idx by_ : Int) (val n : Nat) (hv : val < 4294967296) (hn : Sz n) (h : ¬ kd = 12) :
    Calls Try.prog 33 #[.agg #[.int .i64 kd, .int .i64 reg, .int .i64 idx, .int .u32 val, .int .i64 by_], .agg #[.int .u8 98, .int .i64 n]] w (EPost w none) := by
  obtain ⟨m, hm, M0⟩ := mask_call w n hn
  have M := Aside0.mk M0
  have EX := Aside0.mk (fun w => ext_call w val n hv hn)
  have HN := Aside0.mk hn
  clear M0 hn
  have hk : (kd != 12) = true := bne_iff_ne.2 h
  obtain ⟨W, hW, hsz, bW, eW⟩ := boxes w kd reg idx val by_ 98 n
  have BW := Aside0.mk bW
  have EW := Aside0.mk eW
  obtain ⟨c0, c1, c2, c3, c4, o0, o1⟩ := eW.cells
  clear bW eW
  go_enter Try.func33, Try.ntmps33
  go_wp2_with (first
    | (go_at_call 41; (with_reducible refine (M.out _).mono ?_); rintro e w1 ⟨rfl, hb⟩; obtain ⟨d0, d1, d2, d3, d4, p0, p1⟩ := (EW.out.then hb).cells; have E1 := Aside0.mk (EW.out.then hb); have B1 := Aside0.mk (below_step BW.out hb); clear hb))
  go_quiet (fail)
  go_wp2
  go_ret2
  exact ⟨rfl, pw_below_drewN B1.out _⟩
set_option maxRecDepth 100000 in
set_option maxHeartbeats 4000000 in
theorem encb_idx (w : World) (kd reg idx by_ : Int) (val n : Nat) (hv : val < 4294967296) (hn : Sz n) (h : 0 ≤ idx) :
    Calls Try.prog 33 #[.agg #[.int .i64 12, .int .i64 reg, .int .i64 idx, .int .u32 val, .int .i64 by_], .agg #[.int .u8 98, .int .i64 n]] w (EPost w none) := by
  obtain ⟨m, hm, M0⟩ := mask_call w n hn
  have M := Aside0.mk M0
  have EX := Aside0.mk (fun w => ext_call w val n hv hn)
  have HN := Aside0.mk hn
  clear M0 hn
  obtain ⟨W, hW, hsz, bW, eW⟩ := boxes w 12 reg idx val by_ 98 n
  have BW := Aside0.mk bW
  have EW := Aside0.mk eW
  obtain ⟨c0, c1, c2, c3, c4, o0, o1⟩ := eW.cells
  clear bW eW
  go_enter Try.func33, Try.ntmps33
  go_wp2_with (first
    | (go_at_call 41; (with_reducible refine (M.out _).mono ?_); rintro e w1 ⟨rfl, hb⟩; obtain ⟨d0, d1, d2, d3, d4, p0, p1⟩ := (EW.out.then hb).cells; have E1 := Aside0.mk (EW.out.then hb); have B1 := Aside0.mk (below_step BW.out hb); clear hb))
  go_quiet (fail)
  go_wp2
  go_ret2
  exact ⟨rfl, pw_below_drewN B1.out _⟩
set_option maxRecDepth 100000 in
set_option maxHeartbeats 4000000 in
theorem encb_neg (w : World) (kd reg idx by_ : Int) (val n : Nat) (hv : val < 4294967296) (hn : Sz n) (hi : idx < 0) (h : reg < 0) :
    Calls Try.prog 33 #[.agg #[.int .i64 12, .int .i64 reg, .int .i64 idx, .int .u32 val, .int .i64 by_], .agg #[.int .u8 98, .int .i64 n]] w (EPost w none) := by
  obtain ⟨m, hm, M0⟩ := mask_call w n hn
  have M := Aside0.mk M0
  have EX := Aside0.mk (fun w => ext_call w val n hv hn)
  have HN := Aside0.mk hn
  clear M0 hn
  have hi' : decide (0 ≤ idx) = false := decide_eq_false (by omega)
  have hi'' : ¬ 0 ≤ idx := by omega
  obtain ⟨W, hW, hsz, bW, eW⟩ := boxes w 12 reg idx val by_ 98 n
  have BW := Aside0.mk bW
  have EW := Aside0.mk eW
  obtain ⟨c0, c1, c2, c3, c4, o0, o1⟩ := eW.cells
  clear bW eW
  go_enter Try.func33, Try.ntmps33
  go_wp2_with (first
    | (go_at_call 41; (with_reducible refine (M.out _).mono ?_); rintro e w1 ⟨rfl, hb⟩; obtain ⟨d0, d1, d2, d3, d4, p0, p1⟩ := (EW.out.then hb).cells; have E1 := Aside0.mk (EW.out.then hb); have B1 := Aside0.mk (below_step BW.out hb); clear hb))
  go_quiet (fail)
  go_wp2
  go_ret2
  exact ⟨rfl, pw_below_drewN B1.out _⟩
set_option maxRecDepth 100000 in
set_option maxHeartbeats 4000000 in
theorem encb_big (w : World) (kd reg idx by_ : Int) (val n : Nat) (hv : val < 4294967296) (hn : Sz n) (hi : idx < 0) (hr : 0 ≤ reg) (h : 15 < reg) :
    Calls Try.prog 33 #[.agg #[.int .i64 12, .int .i64 reg, .int .i64 idx, .int .u32 val, .int .i64 by_], .agg #[.int .u8 98, .int .i64 n]] w (EPost w none) := by
  obtain ⟨m, hm, M0⟩ := mask_call w n hn
  have M := Aside0.mk M0
  have EX := Aside0.mk (fun w => ext_call w val n hv hn)
  have HN := Aside0.mk hn
  clear M0 hn
  have hi' : decide (0 ≤ idx) = false := decide_eq_false (by omega)
  have hr' : decide (reg < 0) = false := decide_eq_false (by omega)
  have hi'' : ¬ 0 ≤ idx := by omega
  have hr'' : ¬ reg < 0 := by omega
  obtain ⟨W, hW, hsz, bW, eW⟩ := boxes w 12 reg idx val by_ 98 n
  have BW := Aside0.mk bW
  have EW := Aside0.mk eW
  obtain ⟨c0, c1, c2, c3, c4, o0, o1⟩ := eW.cells
  clear bW eW
  go_enter Try.func33, Try.ntmps33
  go_wp2_with (first
    | (go_at_call 41; (with_reducible refine (M.out _).mono ?_); rintro e w1 ⟨rfl, hb⟩; obtain ⟨d0, d1, d2, d3, d4, p0, p1⟩ := (EW.out.then hb).cells; have E1 := Aside0.mk (EW.out.then hb); have B1 := Aside0.mk (below_step BW.out hb); clear hb))
  go_quiet (fail)
  go_wp2
  go_ret2
  exact ⟨rfl, pw_below_drewN B1.out _⟩
set_option maxRecDepth 100000 in
set_option maxHeartbeats 4000000 in
theorem encb_ext (w : World) (kd reg idx by_ : Int) (val n : Nat) (hv : val < 4294967296) (hn : Sz n) (hi : idx < 0) (hr : 0 ≤ reg) (h15 : reg ≤ 15) (h : ¬ ((extD val n : Nat) : Int) = (val : Int)) :
    Calls Try.prog 33 #[.agg #[.int .i64 12, .int .i64 reg, .int .i64 idx, .int .u32 val, .int .i64 by_], .agg #[.int .u8 98, .int .i64 n]] w (EPost w none) := by
  obtain ⟨m, hm, M0⟩ := mask_call w n hn
  have M := Aside0.mk M0
  have EX := Aside0.mk (fun w => ext_call w val n hv hn)
  have HN := Aside0.mk hn
  clear M0 hn
  have hi' : decide (0 ≤ idx) = false := decide_eq_false (by omega)
  have hr' : decide (reg < 0) = false := decide_eq_false (by omega)
  have h15' : decide (15 < reg) = false := decide_eq_false (by omega)
  have hi'' : ¬ 0 ≤ idx := by omega
  have hr'' : ¬ reg < 0 := by omega
  have h15'' : ¬ 15 < reg := by omega
  obtain ⟨y, hy⟩ : ∃ y : Nat, extD val n = y := ⟨_, rfl⟩
  rw [hy] at EX h
  have hx : ((y : Int) != (val : Int)) = true := bne_iff_ne.2 h
  obtain ⟨W, hW, hsz, bW, eW⟩ := boxes w 12 reg idx val by_ 98 n
  have BW := Aside0.mk bW
  have EW := Aside0.mk eW
  obtain ⟨c0, c1, c2, c3, c4, o0, o1⟩ := eW.cells
  clear bW eW
  go_enter Try.func33, Try.ntmps33
  go_wp2_with (first
    | (go_at_call 41; (with_reducible refine (M.out _).mono ?_); rintro e w1 ⟨rfl, hb⟩; obtain ⟨d0, d1, d2, d3, d4, p0, p1⟩ := (EW.out.then hb).cells; have E1 := Aside0.mk (EW.out.then hb); have B1 := Aside0.mk (below_step BW.out hb); clear hb))
  go_quiet ((go_at_call 46; exact Calls.quiet_of (EX.out _)))
  go_wp2
  go_ret2
  exact ⟨rfl, pw_below_drewN B1.out _⟩
set_option maxRecDepth 100000 in
set_option maxHeartbeats 4000000 in
theorem encb_ok (w : World) (kd reg idx by_ : Int) (val n : Nat) (hv : val < 4294967296) (hn : Sz n) (hi : idx < 0) (hr : 0 ≤ reg) (h15 : reg ≤ 15) (h : ((extD val n : Nat) : Int) = (val : Int)) :
    Calls Try.prog 33 #[.agg #[.int .i64 12, .int .i64 reg, .int .i64 idx, .int .u32 val, .int .i64 by_], .agg #[.int .u8 98, .int .i64 n]] w (EPost w (some (putS val n))) := by
  obtain ⟨m, hm, M0⟩ := mask_call w n hn
  have M := Aside0.mk M0
  have EX := Aside0.mk (fun w => ext_call w val n hv hn)
  have HN := Aside0.mk hn
  clear M0 hn
  have hi' : decide (0 ≤ idx) = false := decide_eq_false (by omega)
  have hr' : decide (reg < 0) = false := decide_eq_false (by omega)
  have h15' : decide (15 < reg) = false := decide_eq_false (by omega)
  have hi'' : ¬ 0 ≤ idx := by omega
  have hr'' : ¬ reg < 0 := by omega
  have h15'' : ¬ 15 < reg := by omega
  have hn4 : n ≤ 4 := by rcases HN.out with rfl | rfl | rfl <;> decide
  have PC := Aside0.mk (fun w => put_call w val n hv hn4)
  have HL := Aside0.mk (putS_length (val : Int) n)
  rw [h] at EX
  obtain ⟨W, hW, hsz, bW, eW⟩ := boxes w 12 reg idx val by_ 98 n
  have BW := Aside0.mk bW
  have EW := Aside0.mk eW
  obtain ⟨c0, c1, c2, c3, c4, o0, o1⟩ := eW.cells
  clear bW eW
  go_enter Try.func33, Try.ntmps33
  go_wp2_with (first
    | (go_at_call 41; (with_reducible refine (M.out _).mono ?_); rintro e w1 ⟨rfl, hb⟩; obtain ⟨d0, d1, d2, d3, d4, p0, p1⟩ := (EW.out.then hb).cells; have E1 := Aside0.mk (EW.out.then hb); have B1 := Aside0.mk (below_step BW.out hb); clear hb))
  go_quiet ((go_at_call 46; exact Calls.quiet_of (EX.out _)))
  go_wp2_with (first
    | (go_at_call 47; (with_reducible refine (PC.out _).mono ?_); rintro e w2 ⟨A, c, rfl, hb2, ho⟩; have B2 := Aside0.mk (below_step (pw_below_drewN B1.out _) hb2); have O := Aside0.mk ho; clear hb2 ho))
  go_ret2
  refine ⟨A, c, by rw [HL.out]; rfl, B2.out, ?_⟩
  rw [HL.out]
  exact own_lower O.out (pw_below_drewN B1.out _).size
end Go.Proofs.Ytbgcbnlpjjhmhaa.SpecWalk
