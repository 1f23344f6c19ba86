-- Written by gprint.py, a program of this session: its own text.
import Derived.Test.YtjflepoifdcadaaGPslMakesx0
import Derived.Test.YtjflepoifdcadaaGPslMakesx1
namespace Go.Proofs.Ytjflepoifdcadaa.GPslMakes
open Go.RowKit Go.Proofs.YtjflepoifdcadaaW.PrintWords Go.Proofs.YtjflepoifdcadaaW.PrintLast Go.Proofs.YtjflepoifdcadaaW.PrintMore
attribute [local go_sem] max2_int min2_int max_two min_two max_three min_three max_four min_four   -- for this text's walks alone
set_option linter.unusedVariables false
set_option linter.unusedSimpArgs false

/-! ### camshaftref06_Of: function 23 -/
mutual
def camshaftref06_Of.l0 : Nat → Int → Int → Int → Bool → Bool → Bool → Bool → Int → Bool → Bool → Bool → Bool → Option (Bool × Bool × Bool × Bool × Int × Bool × Bool × Bool × Bool)
  | 0, _, _, _, _, _, _, _, _, _, _, _, _ => none
  | k + 1, x0, x4, x5, x131000, x131001, x131002, x131003, x131004, x131005, x131006, x131007, x131008 => if x5 < 21 then ((camshaftref03_Bit.f k x0 x5).bind fun t131 => (if t131 = true then (camshaftref06_Of.l0 k x0 (wrap64 (2 * x4)) (wrap64 (x5 + 1)) x131000 x131001 x131002 x131003 (wrap64 (x131004 + x4)) x131005 x131006 x131007 x131008) else (camshaftref06_Of.l0 k x0 (wrap64 (2 * x4)) (wrap64 (x5 + 1)) x131000 x131001 x131002 x131003 x131004 x131005 x131006 x131007 x131008))) else (camshaftref06_Of.l1 k x0 0 x131000 x131001 x131002 x131003 x131004 x131005 x131006 x131007 x131008)
def camshaftref06_Of.l1 : Nat → Int → Int → Bool → Bool → Bool → Bool → Int → Bool → Bool → Bool → Bool → Option (Bool × Bool × Bool × Bool × Int × Bool × Bool × Bool × Bool)
  | 0, _, _, _, _, _, _, _, _, _, _, _ => none
  | k + 1, x0, x6, x131000, x131001, x131002, x131003, x131004, x131005, x131006, x131007, x131008 => if x6 < 32 then (if x6 < 4 then (if x131008 = true then (camshaftref06_Of.l1 k x0 (wrap64 (x6 + 1)) x131000 x131001 x131002 x131003 x131004 x131005 x131006 x131007 true) else (camshaftref06_Of.l1 k x0 (wrap64 (x6 + 1)) x131000 x131001 x131002 x131003 x131004 x131005 x131006 x131007 false)) else (if x6 ≥ 16 then (if x6 ≤ 20 then (if x131008 = true then (camshaftref06_Of.l1 k x0 (wrap64 (x6 + 1)) x131000 x131001 x131002 x131003 x131004 x131005 x131006 x131007 true) else (camshaftref06_Of.l1 k x0 (wrap64 (x6 + 1)) x131000 x131001 x131002 x131003 x131004 x131005 x131006 x131007 false)) else (if x6 = 22 then (if x131008 = true then (camshaftref06_Of.l1 k x0 (wrap64 (x6 + 1)) x131000 x131001 x131002 x131003 x131004 x131005 x131006 x131007 true) else (camshaftref06_Of.l1 k x0 (wrap64 (x6 + 1)) x131000 x131001 x131002 x131003 x131004 x131005 x131006 x131007 false)) else (if x6 = 24 then (if x131008 = true then (camshaftref06_Of.l1 k x0 (wrap64 (x6 + 1)) x131000 x131001 x131002 x131003 x131004 x131005 x131006 x131007 true) else (camshaftref06_Of.l1 k x0 (wrap64 (x6 + 1)) x131000 x131001 x131002 x131003 x131004 x131005 x131006 x131007 false)) else (if x131008 = true then (camshaftref06_Of.l1 k x0 (wrap64 (x6 + 1)) x131000 x131001 x131002 x131003 x131004 x131005 x131006 x131007 true) else (if x6 = 27 then (camshaftref06_Of.l1 k x0 (wrap64 (x6 + 1)) x131000 x131001 x131002 x131003 x131004 x131005 x131006 x131007 false) else ((camshaftref03_Bit.f k x0 x6).bind fun t132 => (camshaftref06_Of.l1 k x0 (wrap64 (x6 + 1)) x131000 x131001 x131002 x131003 x131004 x131005 x131006 x131007 t132))))))) else (if x6 = 22 then (if x131008 = true then (camshaftref06_Of.l1 k x0 (wrap64 (x6 + 1)) x131000 x131001 x131002 x131003 x131004 x131005 x131006 x131007 true) else (camshaftref06_Of.l1 k x0 (wrap64 (x6 + 1)) x131000 x131001 x131002 x131003 x131004 x131005 x131006 x131007 false)) else (if x6 = 24 then (if x131008 = true then (camshaftref06_Of.l1 k x0 (wrap64 (x6 + 1)) x131000 x131001 x131002 x131003 x131004 x131005 x131006 x131007 true) else (camshaftref06_Of.l1 k x0 (wrap64 (x6 + 1)) x131000 x131001 x131002 x131003 x131004 x131005 x131006 x131007 false)) else (if x131008 = true then (camshaftref06_Of.l1 k x0 (wrap64 (x6 + 1)) x131000 x131001 x131002 x131003 x131004 x131005 x131006 x131007 true) else (if x6 = 27 then (camshaftref06_Of.l1 k x0 (wrap64 (x6 + 1)) x131000 x131001 x131002 x131003 x131004 x131005 x131006 x131007 false) else ((camshaftref03_Bit.f k x0 x6).bind fun t133 => (camshaftref06_Of.l1 k x0 (wrap64 (x6 + 1)) x131000 x131001 x131002 x131003 x131004 x131005 x131006 x131007 t133)))))))) else (some (x131000, x131001, x131002, x131003, x131004, x131005, x131006, x131007, x131008))
end
def camshaftref06_Of.f (k : Nat) (a0 : Int) : Option (Bool × Bool × Bool × Bool × Int × Bool × Bool × Bool × Bool) := (camshaftref03_Bit.f k a0 0).bind fun t123 => ((camshaftref03_Bit.f k a0 1).bind fun t124 => ((camshaftref03_Bit.f k a0 2).bind fun t125 => ((camshaftref03_Bit.f k a0 3).bind fun t126 => ((camshaftref03_Bit.f k a0 22).bind fun t127 => ((camshaftref03_Bit.f k a0 24).bind fun t128 => ((camshaftref03_Bit.f k a0 27).bind fun t129 => (camshaftref06_Of.l0 k a0 1 16 t126 t125 t124 t123 0 t127 t128 t129 false)))))))
theorem camshaftref06_Of.mono_l : ∀ k, (∀ y0 y1 y2 y3 y4 y5 y6 y7 y8 y9 y10 y11, LeO (camshaftref06_Of.l0 k y0 y1 y2 y3 y4 y5 y6 y7 y8 y9 y10 y11) (camshaftref06_Of.l0 (k + 1) y0 y1 y2 y3 y4 y5 y6 y7 y8 y9 y10 y11)) ∧ (∀ y0 y1 y2 y3 y4 y5 y6 y7 y8 y9 y10, LeO (camshaftref06_Of.l1 k y0 y1 y2 y3 y4 y5 y6 y7 y8 y9 y10) (camshaftref06_Of.l1 (k + 1) y0 y1 y2 y3 y4 y5 y6 y7 y8 y9 y10))
  | 0 => ⟨fun _ _ _ _ _ _ _ _ _ _ _ _ r h => by simp [camshaftref06_Of.l0] at h, fun _ _ _ _ _ _ _ _ _ _ _ r h => by simp [camshaftref06_Of.l1] at h⟩
  | k + 1 => by
    obtain ⟨ih0, ih1⟩ := camshaftref06_Of.mono_l k
    refine ⟨?_, ?_⟩
    · intro y0 y1 y2 y3 y4 y5 y6 y7 y8 y9 y10 y11
      unfold camshaftref06_Of.l0
      repeat' first
      | (with_reducible exact ih0 _ _ _ _ _ _ _ _ _ _ _ _)
      | (with_reducible exact ih1 _ _ _ _ _ _ _ _ _ _ _)
      | (with_reducible exact camshaftref03_Bit.mono _ _ _)
      | (with_reducible exact LeO.refl _)
      | (with_reducible exact LeO.none _)
      | (with_reducible refine LeO.ite ?_ ?_)
      | (with_reducible refine LeO.bind ?_ (fun _ => ?_))
      | exact ih0 _ _ _ _ _ _ _ _ _ _ _ _
      | exact ih1 _ _ _ _ _ _ _ _ _ _ _
      | exact camshaftref03_Bit.mono _ _ _
      | exact LeO.none _
      | refine LeO.ite ?_ ?_
      | refine LeO.bind ?_ (fun _ => ?_)
    · intro y0 y1 y2 y3 y4 y5 y6 y7 y8 y9 y10
      unfold camshaftref06_Of.l1
      repeat' first
      | (with_reducible exact ih0 _ _ _ _ _ _ _ _ _ _ _ _)
      | (with_reducible exact ih1 _ _ _ _ _ _ _ _ _ _ _)
      | (with_reducible exact camshaftref03_Bit.mono _ _ _)
      | (with_reducible exact LeO.refl _)
      | (with_reducible exact LeO.none _)
      | (with_reducible refine LeO.ite ?_ ?_)
      | (with_reducible refine LeO.bind ?_ (fun _ => ?_))
      | exact ih0 _ _ _ _ _ _ _ _ _ _ _ _
      | exact ih1 _ _ _ _ _ _ _ _ _ _ _
      | exact camshaftref03_Bit.mono _ _ _
      | exact LeO.none _
      | refine LeO.ite ?_ ?_
      | refine LeO.bind ?_ (fun _ => ?_)
theorem camshaftref06_Of.mono : ∀ a0 k, LeO (camshaftref06_Of.f k a0) (camshaftref06_Of.f (k + 1) a0) := by
  intro a0 k
  obtain ⟨ih0, ih1⟩ := camshaftref06_Of.mono_l k
  unfold camshaftref06_Of.f
  repeat' first
      | (with_reducible exact ih0 _ _ _ _ _ _ _ _ _ _ _ _)
      | (with_reducible exact ih1 _ _ _ _ _ _ _ _ _ _ _)
      | (with_reducible exact camshaftref03_Bit.mono _ _ _)
      | (with_reducible exact LeO.refl _)
      | (with_reducible exact LeO.none _)
      | (with_reducible refine LeO.ite ?_ ?_)
      | (with_reducible refine LeO.bind ?_ (fun _ => ?_))
      | exact ih0 _ _ _ _ _ _ _ _ _ _ _ _
      | exact ih1 _ _ _ _ _ _ _ _ _ _ _
      | exact camshaftref03_Bit.mono _ _ _
      | exact LeO.none _
      | refine LeO.ite ?_ ?_
      | refine LeO.bind ?_ (fun _ => ?_)
set_option maxHeartbeats 8000000 in
set_option maxRecDepth 100000 in
theorem camshaftref06_Of.calls (k : Nat) (a0 : Int) (r1 : Bool) (r2 : Bool) (r3 : Bool) (r4 : Bool) (r5 : Int) (r6 : Bool) (r7 : Bool) (r8 : Bool) (r9 : Bool) (w : World) (h : camshaftref06_Of.f k a0 = some (r1, r2, r3, r4, r5, r6, r7, r8, r9)) :
    Calls Try.prog 23 #[.int .u32 a0] w fun e w' => e = .returned (.agg #[.bool r1, .bool r2, .bool r3, .bool r4, .int .i64 r5, .bool r6, .bool r7, .bool r8, .bool r9]) ∧ Below w.heap.size w w' := by
  have hu34 := Try.underlying34
  have hu32 := Try.underlying32
  have HB := Aside0.mk (Below.refl w.heap.size w)
  have H : ((camshaftref03_Bit.f k a0 0).bind fun t123 => ((camshaftref03_Bit.f k a0 1).bind fun t124 => ((camshaftref03_Bit.f k a0 2).bind fun t125 => ((camshaftref03_Bit.f k a0 3).bind fun t126 => ((camshaftref03_Bit.f k a0 22).bind fun t127 => ((camshaftref03_Bit.f k a0 24).bind fun t128 => ((camshaftref03_Bit.f k a0 27).bind fun t129 => (camshaftref06_Of.l0 k a0 1 16 t126 t125 t124 t123 0 t127 t128 t129 false)))))))) = some (r1, r2, r3, r4, r5, r6, r7, r8, r9) := h
  clear h
  replace H := Option.bind_eq_some_iff.mp H
  obtain ⟨t123, A20, H⟩ := H
  replace H : ((camshaftref03_Bit.f k a0 1).bind fun t124 => ((camshaftref03_Bit.f k a0 2).bind fun t125 => ((camshaftref03_Bit.f k a0 3).bind fun t126 => ((camshaftref03_Bit.f k a0 22).bind fun t127 => ((camshaftref03_Bit.f k a0 24).bind fun t128 => ((camshaftref03_Bit.f k a0 27).bind fun t129 => (camshaftref06_Of.l0 k a0 1 16 t126 t125 t124 t123 0 t127 t128 t129 false))))))) = some (r1, r2, r3, r4, r5, r6, r7, r8, r9) := H
  have A2 := Aside0.mk A20
  clear A20
  replace H := Option.bind_eq_some_iff.mp H
  obtain ⟨t124, A30, H⟩ := H
  replace H : ((camshaftref03_Bit.f k a0 2).bind fun t125 => ((camshaftref03_Bit.f k a0 3).bind fun t126 => ((camshaftref03_Bit.f k a0 22).bind fun t127 => ((camshaftref03_Bit.f k a0 24).bind fun t128 => ((camshaftref03_Bit.f k a0 27).bind fun t129 => (camshaftref06_Of.l0 k a0 1 16 t126 t125 t124 t123 0 t127 t128 t129 false)))))) = some (r1, r2, r3, r4, r5, r6, r7, r8, r9) := H
  have A3 := Aside0.mk A30
  clear A30
  replace H := Option.bind_eq_some_iff.mp H
  obtain ⟨t125, A40, H⟩ := H
  replace H : ((camshaftref03_Bit.f k a0 3).bind fun t126 => ((camshaftref03_Bit.f k a0 22).bind fun t127 => ((camshaftref03_Bit.f k a0 24).bind fun t128 => ((camshaftref03_Bit.f k a0 27).bind fun t129 => (camshaftref06_Of.l0 k a0 1 16 t126 t125 t124 t123 0 t127 t128 t129 false))))) = some (r1, r2, r3, r4, r5, r6, r7, r8, r9) := H
  have A4 := Aside0.mk A40
  clear A40
  replace H := Option.bind_eq_some_iff.mp H
  obtain ⟨t126, A50, H⟩ := H
  replace H : ((camshaftref03_Bit.f k a0 22).bind fun t127 => ((camshaftref03_Bit.f k a0 24).bind fun t128 => ((camshaftref03_Bit.f k a0 27).bind fun t129 => (camshaftref06_Of.l0 k a0 1 16 t126 t125 t124 t123 0 t127 t128 t129 false)))) = some (r1, r2, r3, r4, r5, r6, r7, r8, r9) := H
  have A5 := Aside0.mk A50
  clear A50
  replace H := Option.bind_eq_some_iff.mp H
  obtain ⟨t127, A60, H⟩ := H
  replace H : ((camshaftref03_Bit.f k a0 24).bind fun t128 => ((camshaftref03_Bit.f k a0 27).bind fun t129 => (camshaftref06_Of.l0 k a0 1 16 t126 t125 t124 t123 0 t127 t128 t129 false))) = some (r1, r2, r3, r4, r5, r6, r7, r8, r9) := H
  have A6 := Aside0.mk A60
  clear A60
  replace H := Option.bind_eq_some_iff.mp H
  obtain ⟨t128, A70, H⟩ := H
  replace H : ((camshaftref03_Bit.f k a0 27).bind fun t129 => (camshaftref06_Of.l0 k a0 1 16 t126 t125 t124 t123 0 t127 t128 t129 false)) = some (r1, r2, r3, r4, r5, r6, r7, r8, r9) := H
  have A7 := Aside0.mk A70
  clear A70
  replace H := Option.bind_eq_some_iff.mp H
  obtain ⟨t129, A80, H⟩ := H
  replace H : (camshaftref06_Of.l0 k a0 1 16 t126 t125 t124 t123 0 t127 t128 t129 false) = some (r1, r2, r3, r4, r5, r6, r7, r8, r9) := H
  have A8 := Aside0.mk A80
  clear A80
  have H' := Aside0.mk H
  clear H
  go_enter Try.func23, Try.ntmps23
  go_wp2_with (first | ((with_reducible refine gate_dst (N := 2) rfl ?_); refine box_event ?hg (N := 2) ?hd (cs := #[.bool false, .bool false, .bool false, .bool false, .int .i64 0, .bool false, .bool false, .bool false, .bool false]) (t := 34) ?hr ?_; (case hd => rfl); (case hg => rfl); (case hr => first | (go_simp; done) | (go_simp; rfl)); intro gb122 hg w9 hbox hb; have n0_ := Aside0.mk (below_step (by repeat (first | (with_reducible first | exact HB.out | apply below_alloc | apply pw_below_drewN | apply below_drew1) | exact HB.out)) hb); have n1_ := Aside0.mk (hbox); have n2_ := Aside0.mk ((by rw [hg]; exact (below_size (by repeat (first | (with_reducible first | exact HB.out | apply below_alloc | apply pw_below_drewN | apply below_drew1) | exact HB.out))) : w.heap.size ≤ gb122)); have n3_ := Aside0.mk ((by rw [hg]; exact (below_size (by repeat (first | (with_reducible first | exact HB.out | apply below_alloc | apply pw_below_drewN | apply below_drew1) | exact HB.out))) : w.heap.size ≤ gb122)); clear HB; have HB := n0_; have BK122 := n1_; have GW122 := n2_; have GE122 := n3_; clear n0_ n1_ n2_ n3_; clear hb hbox hg) | ((with_reducible refine gate_callee (f := 41) rfl ?_); refine goesL_ (some 9) rfl rfl Try.func41 (by kernel_rfl) rfl #[.int .u32 a0, .int .i64 0] rfl (by (try simp only [List.map_toArray, List.map_cons, List.map_nil]); first | done | rfl | (simp only [List.length_drop, List.length_take]; rfl)) ?_; (with_reducible refine (camshaftref03_Bit.calls k a0 0 t123 _ A2.out).mono ?_); rintro e w' ⟨rfl, ⟨nd, rfl⟩⟩; refine ⟨_, rfl, ?_⟩; (try (rw [drewN_self w9]; generalize hq_ : World.drewN w9 _ = w9; have n0_ : Aside0 (w9.heap[gb122]? = some (.cells #[.bool false, .bool false, .bool false, .bool false, .int .i64 0, .bool false, .bool false, .bool false, .bool false] 34 (0, 0))) := ⟨by rw [← hq_]; exact (by (with_reducible repeat (first | refine blk_drewN ?_ _ | refine blk_drew ?_ | refine blk_alloc ?_ _)); exact BK122.out)⟩; have n1_ : Aside0 (Below w.heap.size w w9) := ⟨by rw [← hq_]; exact (by repeat (first | (with_reducible first | exact HB.out | apply below_alloc | apply pw_below_drewN | apply below_drew1 | refine below_set ?_ GE122.out) | exact HB.out))⟩; clear BK122 HB hq_; have BK122 := n0_; have HB := n1_; clear n0_ n1_))) | ((with_reducible refine gate_callee (f := 41) rfl ?_); refine goesL_ (some 11) rfl rfl Try.func41 (by kernel_rfl) rfl #[.int .u32 a0, .int .i64 1] rfl (by (try simp only [List.map_toArray, List.map_cons, List.map_nil]); first | done | rfl | (simp only [List.length_drop, List.length_take]; rfl)) ?_; (with_reducible refine (camshaftref03_Bit.calls k a0 1 t124 _ A3.out).mono ?_); rintro e w' ⟨rfl, ⟨nd, rfl⟩⟩; refine ⟨_, rfl, ?_⟩; (try (rw [drewN_self w9]; generalize hq_ : World.drewN w9 _ = w9; have n0_ : Aside0 (w9.heap[gb122]? = some (.cells #[.bool false, .bool false, .bool false, .bool false, .int .i64 0, .bool false, .bool false, .bool false, .bool false] 34 (0, 0))) := ⟨by rw [← hq_]; exact (by (with_reducible repeat (first | refine blk_drewN ?_ _ | refine blk_drew ?_ | refine blk_alloc ?_ _)); exact BK122.out)⟩; have n1_ : Aside0 (Below w.heap.size w w9) := ⟨by rw [← hq_]; exact (by repeat (first | (with_reducible first | exact HB.out | apply below_alloc | apply pw_below_drewN | apply below_drew1 | refine below_set ?_ GE122.out) | exact HB.out))⟩; clear BK122 HB hq_; have BK122 := n0_; have HB := n1_; clear n0_ n1_))) | ((with_reducible refine gate_callee (f := 41) rfl ?_); refine goesL_ (some 13) rfl rfl Try.func41 (by kernel_rfl) rfl #[.int .u32 a0, .int .i64 2] rfl (by (try simp only [List.map_toArray, List.map_cons, List.map_nil]); first | done | rfl | (simp only [List.length_drop, List.length_take]; rfl)) ?_; (with_reducible refine (camshaftref03_Bit.calls k a0 2 t125 _ A4.out).mono ?_); rintro e w' ⟨rfl, ⟨nd, rfl⟩⟩; refine ⟨_, rfl, ?_⟩; (try (rw [drewN_self w9]; generalize hq_ : World.drewN w9 _ = w9; have n0_ : Aside0 (w9.heap[gb122]? = some (.cells #[.bool false, .bool false, .bool false, .bool false, .int .i64 0, .bool false, .bool false, .bool false, .bool false] 34 (0, 0))) := ⟨by rw [← hq_]; exact (by (with_reducible repeat (first | refine blk_drewN ?_ _ | refine blk_drew ?_ | refine blk_alloc ?_ _)); exact BK122.out)⟩; have n1_ : Aside0 (Below w.heap.size w w9) := ⟨by rw [← hq_]; exact (by repeat (first | (with_reducible first | exact HB.out | apply below_alloc | apply pw_below_drewN | apply below_drew1 | refine below_set ?_ GE122.out) | exact HB.out))⟩; clear BK122 HB hq_; have BK122 := n0_; have HB := n1_; clear n0_ n1_))) | ((with_reducible refine gate_callee (f := 41) rfl ?_); refine goesL_ (some 15) rfl rfl Try.func41 (by kernel_rfl) rfl #[.int .u32 a0, .int .i64 3] rfl (by (try simp only [List.map_toArray, List.map_cons, List.map_nil]); first | done | rfl | (simp only [List.length_drop, List.length_take]; rfl)) ?_; (with_reducible refine (camshaftref03_Bit.calls k a0 3 t126 _ A5.out).mono ?_); rintro e w' ⟨rfl, ⟨nd, rfl⟩⟩; refine ⟨_, rfl, ?_⟩; (try (rw [drewN_self w9]; generalize hq_ : World.drewN w9 _ = w9; have n0_ : Aside0 (w9.heap[gb122]? = some (.cells #[.bool false, .bool false, .bool false, .bool false, .int .i64 0, .bool false, .bool false, .bool false, .bool false] 34 (0, 0))) := ⟨by rw [← hq_]; exact (by (with_reducible repeat (first | refine blk_drewN ?_ _ | refine blk_drew ?_ | refine blk_alloc ?_ _)); exact BK122.out)⟩; have n1_ : Aside0 (Below w.heap.size w w9) := ⟨by rw [← hq_]; exact (by repeat (first | (with_reducible first | exact HB.out | apply below_alloc | apply pw_below_drewN | apply below_drew1 | refine below_set ?_ GE122.out) | exact HB.out))⟩; clear BK122 HB hq_; have BK122 := n0_; have HB := n1_; clear n0_ n1_))) | ((with_reducible refine gate_callee (f := 41) rfl ?_); refine goesL_ (some 18) rfl rfl Try.func41 (by kernel_rfl) rfl #[.int .u32 a0, .int .i64 22] rfl (by (try simp only [List.map_toArray, List.map_cons, List.map_nil]); first | done | rfl | (simp only [List.length_drop, List.length_take]; rfl)) ?_; (with_reducible refine (camshaftref03_Bit.calls k a0 22 t127 _ A6.out).mono ?_); rintro e w' ⟨rfl, ⟨nd, rfl⟩⟩; refine ⟨_, rfl, ?_⟩; (try (rw [drewN_self w9]; generalize hq_ : World.drewN w9 _ = w9; have n0_ : Aside0 (w9.heap[gb122]? = some (.cells #[.bool false, .bool false, .bool false, .bool false, .int .i64 0, .bool false, .bool false, .bool false, .bool false] 34 (0, 0))) := ⟨by rw [← hq_]; exact (by (with_reducible repeat (first | refine blk_drewN ?_ _ | refine blk_drew ?_ | refine blk_alloc ?_ _)); exact BK122.out)⟩; have n1_ : Aside0 (Below w.heap.size w w9) := ⟨by rw [← hq_]; exact (by repeat (first | (with_reducible first | exact HB.out | apply below_alloc | apply pw_below_drewN | apply below_drew1 | refine below_set ?_ GE122.out) | exact HB.out))⟩; clear BK122 HB hq_; have BK122 := n0_; have HB := n1_; clear n0_ n1_))) | ((with_reducible refine gate_callee (f := 41) rfl ?_); refine goesL_ (some 20) rfl rfl Try.func41 (by kernel_rfl) rfl #[.int .u32 a0, .int .i64 24] rfl (by (try simp only [List.map_toArray, List.map_cons, List.map_nil]); first | done | rfl | (simp only [List.length_drop, List.length_take]; rfl)) ?_; (with_reducible refine (camshaftref03_Bit.calls k a0 24 t128 _ A7.out).mono ?_); rintro e w' ⟨rfl, ⟨nd, rfl⟩⟩; refine ⟨_, rfl, ?_⟩; (try (rw [drewN_self w9]; generalize hq_ : World.drewN w9 _ = w9; have n0_ : Aside0 (w9.heap[gb122]? = some (.cells #[.bool false, .bool false, .bool false, .bool false, .int .i64 0, .bool false, .bool false, .bool false, .bool false] 34 (0, 0))) := ⟨by rw [← hq_]; exact (by (with_reducible repeat (first | refine blk_drewN ?_ _ | refine blk_drew ?_ | refine blk_alloc ?_ _)); exact BK122.out)⟩; have n1_ : Aside0 (Below w.heap.size w w9) := ⟨by rw [← hq_]; exact (by repeat (first | (with_reducible first | exact HB.out | apply below_alloc | apply pw_below_drewN | apply below_drew1 | refine below_set ?_ GE122.out) | exact HB.out))⟩; clear BK122 HB hq_; have BK122 := n0_; have HB := n1_; clear n0_ n1_))) | ((with_reducible refine gate_callee (f := 41) rfl ?_); refine goesL_ (some 22) rfl rfl Try.func41 (by kernel_rfl) rfl #[.int .u32 a0, .int .i64 27] rfl (by (try simp only [List.map_toArray, List.map_cons, List.map_nil]); first | done | rfl | (simp only [List.length_drop, List.length_take]; rfl)) ?_; (with_reducible refine (camshaftref03_Bit.calls k a0 27 t129 _ A8.out).mono ?_); rintro e w' ⟨rfl, ⟨nd, rfl⟩⟩; refine ⟨_, rfl, ?_⟩; (try (rw [drewN_self w9]; generalize hq_ : World.drewN w9 _ = w9; have n0_ : Aside0 (w9.heap[gb122]? = some (.cells #[.bool false, .bool false, .bool false, .bool false, .int .i64 0, .bool false, .bool false, .bool false, .bool false] 34 (0, 0))) := ⟨by rw [← hq_]; exact (by (with_reducible repeat (first | refine blk_drewN ?_ _ | refine blk_drew ?_ | refine blk_alloc ?_ _)); exact BK122.out)⟩; have n1_ : Aside0 (Below w.heap.size w w9) := ⟨by rw [← hq_]; exact (by repeat (first | (with_reducible first | exact HB.out | apply below_alloc | apply pw_below_drewN | apply below_drew1 | refine below_set ?_ GE122.out) | exact HB.out))⟩; clear BK122 HB hq_; have BK122 := n0_; have HB := n1_; clear n0_ n1_))) | ((with_reducible refine gate_dst (N := 3) rfl ?_); refine box_event ?hg (N := 3) ?hd (cs := #[.bool false, .bool false, .bool false, .bool false, .int .i64 0, .bool false, .bool false, .bool false, .bool false]) (t := 34) ?hr ?_; (case hd => rfl); (case hg => rfl); (case hr => first | (go_simp; done) | (go_simp; rfl)); intro gb130 hg w10 hbox hb; have n0_ := Aside0.mk (blk_below (g := gb122) (o := .cells #[.bool false, .bool false, .bool false, .bool false, .int .i64 0, .bool false, .bool false, .bool false, .bool false] 34 (0, 0)) (by (with_reducible repeat (first | refine blk_drewN ?_ _ | refine blk_drew ?_ | refine blk_alloc ?_ _)); exact BK122.out) hb); have n1_ := Aside0.mk (below_step (by repeat (first | (with_reducible first | exact HB.out | apply below_alloc | apply pw_below_drewN | apply below_drew1 | refine below_set ?_ GE122.out) | exact HB.out)) hb); have n2_ := Aside0.mk (hbox); have n3_ := Aside0.mk ((by rw [hg]; exact (below_size (by repeat (first | (with_reducible first | exact HB.out | apply below_alloc | apply pw_below_drewN | apply below_drew1 | refine below_set ?_ GE122.out) | exact HB.out))) : w.heap.size ≤ gb130)); have n4_ := Aside0.mk ((by rw [hg]; exact (below_size (by repeat (first | (with_reducible first | exact HB.out | apply below_alloc | apply pw_below_drewN | apply below_drew1 | refine below_set ?_ GE122.out) | exact HB.out))) : w.heap.size ≤ gb130)); have n5_ := Aside0.mk ((by rw [hg]; exact Nat.ne_of_lt (blk_lt (g := gb122) (o := .cells #[.bool false, .bool false, .bool false, .bool false, .int .i64 0, .bool false, .bool false, .bool false, .bool false] 34 (0, 0)) (by (with_reducible repeat (first | refine blk_drewN ?_ _ | refine blk_drew ?_ | refine blk_alloc ?_ _)); exact BK122.out)) : gb122 ≠ gb130)); have n6_ := Aside0.mk ((by rw [hg]; exact Nat.ne_of_gt (blk_lt (g := gb122) (o := .cells #[.bool false, .bool false, .bool false, .bool false, .int .i64 0, .bool false, .bool false, .bool false, .bool false] 34 (0, 0)) (by (with_reducible repeat (first | refine blk_drewN ?_ _ | refine blk_drew ?_ | refine blk_alloc ?_ _)); exact BK122.out)) : gb130 ≠ gb122)); clear BK122; clear HB; have BK122 := n0_; have HB := n1_; have BK130 := n2_; have GW130 := n3_; have GE130 := n4_; have NB122_130 := n5_; have NB130_122 := n6_; clear n0_ n1_ n2_ n3_ n4_ n5_ n6_; clear hb hbox hg; have hnb11 := NB130_122.out; have hnc11 := NB122_130.out; have hcz12_0 : w10.cell? ⟨gb130, 0, none⟩ = some (.bool false) := (blk_cell BK130.out 0).trans rfl; have hcz12_1 : w10.cell? ⟨gb130, 1, none⟩ = some (.bool false) := (blk_cell BK130.out 1).trans rfl; have hcz12_2 : w10.cell? ⟨gb130, 2, none⟩ = some (.bool false) := (blk_cell BK130.out 2).trans rfl; have hcz12_3 : w10.cell? ⟨gb130, 3, none⟩ = some (.bool false) := (blk_cell BK130.out 3).trans rfl; have hcz12_4 : w10.cell? ⟨gb130, 4, none⟩ = some (.int .i64 0) := (blk_cell BK130.out 4).trans rfl; have hcz12_5 : w10.cell? ⟨gb130, 5, none⟩ = some (.bool false) := (blk_cell BK130.out 5).trans rfl; have hcz12_6 : w10.cell? ⟨gb130, 6, none⟩ = some (.bool false) := (blk_cell BK130.out 6).trans rfl; have hcz12_7 : w10.cell? ⟨gb130, 7, none⟩ = some (.bool false) := (blk_cell BK130.out 7).trans rfl; have hcz12_8 : w10.cell? ⟨gb130, 8, none⟩ = some (.bool false) := (blk_cell BK130.out 8).trans rfl; have hfz12_0 := blk_frozen BK130.out 0; have hfz12_1 := blk_frozen BK130.out 1; have hfz12_2 := blk_frozen BK130.out 2; have hfz12_3 := blk_frozen BK130.out 3; have hfz12_4 := blk_frozen BK130.out 4; have hfz12_5 := blk_frozen BK130.out 5; have hfz12_6 := blk_frozen BK130.out 6; have hfz12_7 := blk_frozen BK130.out 7; have hfz12_8 := blk_frozen BK130.out 8))
  go_loopg [4, 5] k (fun kq v4 v5 w' => ∃ (x4_1 : Int) (x5_1 : Int) (x131004_1 : Int), v4 = .int .i64 x4_1 ∧ v5 = .int .i64 x5_1 ∧ Aside0 (camshaftref06_Of.l0 kq a0 x4_1 x5_1 t126 t125 t124 t123 x131004_1 t127 t128 t129 false = some (r1, r2, r3, r4, r5, r6, r7, r8, r9)) ∧ Aside0 (kq ≤ k) ∧ Aside0 (w'.heap[gb122]? = some (.cells #[.bool false, .bool false, .bool false, .bool false, .int .i64 0, .bool false, .bool false, .bool false, .bool false] 34 (0, 0))) ∧ Aside0 (w'.heap[gb130]? = some (.cells #[.bool t126, .bool t125, .bool t124, .bool t123, .int .i64 x131004_1, .bool t127, .bool t128, .bool t129, .bool false] 34 (0, 0))) ∧ Aside0 (Below w.heap.size w w'))
  case atStart => exact ⟨(1), (16), (0), (by first | rfl | (simp; done) | (simp [*]; done)), (by first | rfl | (simp; done) | (simp [*]; done)), H', ⟨Nat.le_refl _⟩, ⟨by (with_reducible repeat (first | refine blk_drewN ?_ _ | refine blk_drew ?_ | refine blk_alloc ?_ _)); refine blk_far ?_ NB122_130.out _; (with_reducible repeat (first | refine blk_drewN ?_ _ | refine blk_drew ?_ | refine blk_alloc ?_ _)); refine blk_far ?_ NB122_130.out _; (with_reducible repeat (first | refine blk_drewN ?_ _ | refine blk_drew ?_ | refine blk_alloc ?_ _)); refine blk_far ?_ NB122_130.out _; (with_reducible repeat (first | refine blk_drewN ?_ _ | refine blk_drew ?_ | refine blk_alloc ?_ _)); refine blk_far ?_ NB122_130.out _; (with_reducible repeat (first | refine blk_drewN ?_ _ | refine blk_drew ?_ | refine blk_alloc ?_ _)); refine blk_far ?_ NB122_130.out _; (with_reducible repeat (first | refine blk_drewN ?_ _ | refine blk_drew ?_ | refine blk_alloc ?_ _)); refine blk_far ?_ NB122_130.out _; (with_reducible repeat (first | refine blk_drewN ?_ _ | refine blk_drew ?_ | refine blk_alloc ?_ _)); refine blk_far ?_ NB122_130.out _; (with_reducible repeat (first | refine blk_drewN ?_ _ | refine blk_drew ?_ | refine blk_alloc ?_ _)); refine blk_far ?_ NB122_130.out _; (with_reducible repeat (first | refine blk_drewN ?_ _ | refine blk_drew ?_ | refine blk_alloc ?_ _)); refine blk_far ?_ NB122_130.out _; (with_reducible repeat (first | refine blk_drewN ?_ _ | refine blk_drew ?_ | refine blk_alloc ?_ _)); exact BK122.out⟩, ⟨by (with_reducible repeat (first | refine blk_drewN ?_ _ | refine blk_drew ?_ | refine blk_alloc ?_ _)); refine blk_put (cs := #[.bool t126, .bool t125, .bool t124, .bool t123, .int .i64 0, .bool t127, .bool t128, .bool t129, .bool false]) ?_ 8 _ rfl; (with_reducible repeat (first | refine blk_drewN ?_ _ | refine blk_drew ?_ | refine blk_alloc ?_ _)); refine blk_put (cs := #[.bool t126, .bool t125, .bool t124, .bool t123, .int .i64 0, .bool t127, .bool t128, .bool false, .bool false]) ?_ 7 _ rfl; (with_reducible repeat (first | refine blk_drewN ?_ _ | refine blk_drew ?_ | refine blk_alloc ?_ _)); refine blk_put (cs := #[.bool t126, .bool t125, .bool t124, .bool t123, .int .i64 0, .bool t127, .bool false, .bool false, .bool false]) ?_ 6 _ rfl; (with_reducible repeat (first | refine blk_drewN ?_ _ | refine blk_drew ?_ | refine blk_alloc ?_ _)); refine blk_put (cs := #[.bool t126, .bool t125, .bool t124, .bool t123, .int .i64 0, .bool false, .bool false, .bool false, .bool false]) ?_ 5 _ rfl; (with_reducible repeat (first | refine blk_drewN ?_ _ | refine blk_drew ?_ | refine blk_alloc ?_ _)); refine blk_put (cs := #[.bool t126, .bool t125, .bool t124, .bool t123, .int .i64 0, .bool false, .bool false, .bool false, .bool false]) ?_ 4 _ rfl; (with_reducible repeat (first | refine blk_drewN ?_ _ | refine blk_drew ?_ | refine blk_alloc ?_ _)); refine blk_put (cs := #[.bool t126, .bool t125, .bool t124, .bool false, .int .i64 0, .bool false, .bool false, .bool false, .bool false]) ?_ 3 _ rfl; (with_reducible repeat (first | refine blk_drewN ?_ _ | refine blk_drew ?_ | refine blk_alloc ?_ _)); refine blk_put (cs := #[.bool t126, .bool t125, .bool false, .bool false, .int .i64 0, .bool false, .bool false, .bool false, .bool false]) ?_ 2 _ rfl; (with_reducible repeat (first | refine blk_drewN ?_ _ | refine blk_drew ?_ | refine blk_alloc ?_ _)); refine blk_put (cs := #[.bool t126, .bool false, .bool false, .bool false, .int .i64 0, .bool false, .bool false, .bool false, .bool false]) ?_ 1 _ rfl; (with_reducible repeat (first | refine blk_drewN ?_ _ | refine blk_drew ?_ | refine blk_alloc ?_ _)); refine blk_put (cs := #[.bool false, .bool false, .bool false, .bool false, .int .i64 0, .bool false, .bool false, .bool false, .bool false]) ?_ 0 _ rfl; (with_reducible repeat (first | refine blk_drewN ?_ _ | refine blk_drew ?_ | refine blk_alloc ?_ _)); exact BK130.out⟩, ⟨by repeat (first | (with_reducible first | exact HB.out | apply below_alloc | apply pw_below_drewN | apply below_drew1 | refine below_set ?_ GE122.out | refine below_set ?_ GE130.out) | exact HB.out)⟩⟩
  case round =>
    clear H'
    try clear c1
    try clear c2
    try clear p2
    try clear c4
    try clear c11
    try clear hcz12_0
    try clear hcz12_1
    try clear hcz12_2
    try clear hcz12_3
    try clear hcz12_4
    try clear hcz12_5
    try clear hcz12_6
    try clear hcz12_7
    try clear hcz12_8
    try clear hfz12_0
    try clear hfz12_1
    try clear hfz12_2
    try clear hfz12_3
    try clear hfz12_4
    try clear hfz12_5
    try clear hfz12_6
    try clear hfz12_7
    try clear hfz12_8
    obtain ⟨x4_1, x5_1, x131004_1, rfl, rfl, HA, HK1, BK122, BK130, HB⟩ := hrel
    cases gk with
    | zero => exact absurd HA.out (by simp [camshaftref06_Of.l0])
    | succ k1 =>
      have H := HA.out
      clear HA
      simp only [camshaftref06_Of.l0] at H
      by_cases c13 : x5_1 < 21
      · rw [if_pos c13] at H
        have c13b0 : decide (x5_1 < 21) = true := decide_eq_true c13
        clear c13
        replace H := Option.bind_eq_some_iff.mp H
        obtain ⟨t131, A140, H⟩ := H
        replace H : (if t131 = true then (camshaftref06_Of.l0 k1 a0 (wrap64 (2 * x4_1)) (wrap64 (x5_1 + 1)) t126 t125 t124 t123 (wrap64 (x131004_1 + x4_1)) t127 t128 t129 false) else (camshaftref06_Of.l0 k1 a0 (wrap64 (2 * x4_1)) (wrap64 (x5_1 + 1)) t126 t125 t124 t123 x131004_1 t127 t128 t129 false)) = some (r1, r2, r3, r4, r5, r6, r7, r8, r9) := H
        have A14 := Aside0.mk A140
        clear A140
        by_cases c15 : t131 = true
        · subst c15
          have H1 : (camshaftref06_Of.l0 k1 a0 (wrap64 (2 * x4_1)) (wrap64 (x5_1 + 1)) t126 t125 t124 t123 (wrap64 (x131004_1 + x4_1)) t127 t128 t129 false) = some (r1, r2, r3, r4, r5, r6, r7, r8, r9) := by rw [if_pos rfl] at H; exact H
          clear H
          have H := H1
          clear H1
          have H' := Aside0.mk H
          clear H
          go_wp2_with (first | ((with_reducible refine gate_callee (f := 41) rfl ?_); refine goesL_ (some 30) rfl rfl Try.func41 (by kernel_rfl) rfl #[.int .u32 a0, .int .i64 x5_1] rfl (by (try simp only [List.map_toArray, List.map_cons, List.map_nil]); first | done | rfl | (simp only [List.length_drop, List.length_take]; rfl)) ?_; (with_reducible refine (camshaftref03_Bit.calls k1 a0 x5_1 true _ A14.out).mono ?_); rintro e w' ⟨rfl, ⟨nd, rfl⟩⟩; refine ⟨_, rfl, ?_⟩; (try (rw [drewN_self wr]; generalize hq_ : World.drewN wr _ = wr; have n0_ : Aside0 (wr.heap[gb122]? = some (.cells #[.bool false, .bool false, .bool false, .bool false, .int .i64 0, .bool false, .bool false, .bool false, .bool false] 34 (0, 0))) := ⟨by rw [← hq_]; exact (by (with_reducible repeat (first | refine blk_drewN ?_ _ | refine blk_drew ?_ | refine blk_alloc ?_ _)); exact BK122.out)⟩; have n1_ : Aside0 (wr.heap[gb130]? = some (.cells #[.bool t126, .bool t125, .bool t124, .bool t123, .int .i64 x131004_1, .bool t127, .bool t128, .bool t129, .bool false] 34 (0, 0))) := ⟨by rw [← hq_]; exact (by (with_reducible repeat (first | refine blk_drewN ?_ _ | refine blk_drew ?_ | refine blk_alloc ?_ _)); exact BK130.out)⟩; have n2_ : Aside0 (Below w.heap.size w wr) := ⟨by rw [← hq_]; exact (by repeat (first | (with_reducible first | exact HB.out | apply below_alloc | apply pw_below_drewN | apply below_drew1 | refine below_set ?_ GE122.out | refine below_set ?_ GE130.out) | exact HB.out))⟩; clear BK122 BK130 HB hq_; have BK122 := n0_; have BK130 := n1_; have HB := n2_; clear n0_ n1_ n2_)); have hnb16 := NB130_122.out; have hnc16 := NB122_130.out; have hcz17_0 : wr.cell? ⟨gb130, 0, none⟩ = some (.bool t126) := (blk_cell BK130.out 0).trans rfl; have hcz17_1 : wr.cell? ⟨gb130, 1, none⟩ = some (.bool t125) := (blk_cell BK130.out 1).trans rfl; have hcz17_2 : wr.cell? ⟨gb130, 2, none⟩ = some (.bool t124) := (blk_cell BK130.out 2).trans rfl; have hcz17_3 : wr.cell? ⟨gb130, 3, none⟩ = some (.bool t123) := (blk_cell BK130.out 3).trans rfl; have hcz17_4 : wr.cell? ⟨gb130, 4, none⟩ = some (.int .i64 x131004_1) := (blk_cell BK130.out 4).trans rfl; have hcz17_5 : wr.cell? ⟨gb130, 5, none⟩ = some (.bool t127) := (blk_cell BK130.out 5).trans rfl; have hcz17_6 : wr.cell? ⟨gb130, 6, none⟩ = some (.bool t128) := (blk_cell BK130.out 6).trans rfl; have hcz17_7 : wr.cell? ⟨gb130, 7, none⟩ = some (.bool t129) := (blk_cell BK130.out 7).trans rfl; have hcz17_8 : wr.cell? ⟨gb130, 8, none⟩ = some (.bool false) := (blk_cell BK130.out 8).trans rfl; have hfz17_0 := blk_frozen BK130.out 0; have hfz17_1 := blk_frozen BK130.out 1; have hfz17_2 := blk_frozen BK130.out 2; have hfz17_3 := blk_frozen BK130.out 3; have hfz17_4 := blk_frozen BK130.out 4; have hfz17_5 := blk_frozen BK130.out 5; have hfz17_6 := blk_frozen BK130.out 6; have hfz17_7 := blk_frozen BK130.out 7; have hfz17_8 := blk_frozen BK130.out 8))
          go_roundg k1
          case measure => have := HK1.out; omega
          case rel => exact ⟨(wrap64 (2 * x4_1)), (wrap64 (x5_1 + 1)), (wrap64 (x131004_1 + x4_1)), (by first | rfl | (simp; done) | (simp [*]; done)), (by first | rfl | (simp; done) | (simp [*]; done)), H', ⟨by have := HK1.out; omega⟩, ⟨by (with_reducible repeat (first | refine blk_drewN ?_ _ | refine blk_drew ?_ | refine blk_alloc ?_ _)); refine blk_far ?_ NB122_130.out _; (with_reducible repeat (first | refine blk_drewN ?_ _ | refine blk_drew ?_ | refine blk_alloc ?_ _)); exact BK122.out⟩, ⟨by (with_reducible repeat (first | refine blk_drewN ?_ _ | refine blk_drew ?_ | refine blk_alloc ?_ _)); refine blk_put (cs := #[.bool t126, .bool t125, .bool t124, .bool t123, .int .i64 x131004_1, .bool t127, .bool t128, .bool t129, .bool false]) ?_ 4 _ rfl; (with_reducible repeat (first | refine blk_drewN ?_ _ | refine blk_drew ?_ | refine blk_alloc ?_ _)); exact BK130.out⟩, ⟨by repeat (first | (with_reducible first | exact HB.out | apply below_alloc | apply pw_below_drewN | apply below_drew1 | refine below_set ?_ GE122.out | refine below_set ?_ GE130.out) | exact HB.out)⟩⟩
        · replace c15 := Bool.eq_false_iff.mpr c15
          subst c15
          have H1 : (camshaftref06_Of.l0 k1 a0 (wrap64 (2 * x4_1)) (wrap64 (x5_1 + 1)) t126 t125 t124 t123 x131004_1 t127 t128 t129 false) = some (r1, r2, r3, r4, r5, r6, r7, r8, r9) := by rw [if_neg (show ¬ (false = true) by decide)] at H; exact H
          clear H
          have H := H1
          clear H1
          have H' := Aside0.mk H
          clear H
          go_wp2_with (first | ((with_reducible refine gate_callee (f := 41) rfl ?_); refine goesL_ (some 30) rfl rfl Try.func41 (by kernel_rfl) rfl #[.int .u32 a0, .int .i64 x5_1] rfl (by (try simp only [List.map_toArray, List.map_cons, List.map_nil]); first | done | rfl | (simp only [List.length_drop, List.length_take]; rfl)) ?_; (with_reducible refine (camshaftref03_Bit.calls k1 a0 x5_1 false _ A14.out).mono ?_); rintro e w' ⟨rfl, ⟨nd, rfl⟩⟩; refine ⟨_, rfl, ?_⟩))
          go_roundg k1
          case measure => have := HK1.out; omega
          case rel => exact ⟨(wrap64 (2 * x4_1)), (wrap64 (x5_1 + 1)), (x131004_1), (by first | rfl | (simp; done) | (simp [*]; done)), (by first | rfl | (simp; done) | (simp [*]; done)), H', ⟨by have := HK1.out; omega⟩, ⟨by (with_reducible repeat (first | refine blk_drewN ?_ _ | refine blk_drew ?_ | refine blk_alloc ?_ _)); exact BK122.out⟩, ⟨by (with_reducible repeat (first | refine blk_drewN ?_ _ | refine blk_drew ?_ | refine blk_alloc ?_ _)); exact BK130.out⟩, ⟨by repeat (first | (with_reducible first | exact HB.out | apply below_alloc | apply pw_below_drewN | apply below_drew1 | refine below_set ?_ GE122.out | refine below_set ?_ GE130.out) | exact HB.out)⟩⟩
      · rw [if_neg c13] at H
        have c13b0 : decide (x5_1 < 21) = false := decide_eq_false c13
        clear c13
        have H' := Aside0.mk H
        clear H
        go_wp2
        go_loopg [6] k1 (fun kq v6 w' => ∃ (x6_2 : Int) (x131008_2 : Bool), v6 = .int .i64 x6_2 ∧ Aside0 (camshaftref06_Of.l1 kq a0 x6_2 t126 t125 t124 t123 x131004_1 t127 t128 t129 x131008_2 = some (r1, r2, r3, r4, r5, r6, r7, r8, r9)) ∧ Aside0 (kq ≤ k1) ∧ Aside0 (w'.heap[gb122]? = some (.cells #[.bool false, .bool false, .bool false, .bool false, .int .i64 0, .bool false, .bool false, .bool false, .bool false] 34 (0, 0))) ∧ Aside0 (w'.heap[gb130]? = some (.cells #[.bool t126, .bool t125, .bool t124, .bool t123, .int .i64 x131004_1, .bool t127, .bool t128, .bool t129, .bool x131008_2] 34 (0, 0))) ∧ Aside0 (Below w.heap.size w w'))
        case atStart => exact ⟨(0), (false), (by first | rfl | (simp; done) | (simp [*]; done)), H', ⟨Nat.le_refl _⟩, ⟨by (with_reducible repeat (first | refine blk_drewN ?_ _ | refine blk_drew ?_ | refine blk_alloc ?_ _)); exact BK122.out⟩, ⟨by (with_reducible repeat (first | refine blk_drewN ?_ _ | refine blk_drew ?_ | refine blk_alloc ?_ _)); exact BK130.out⟩, ⟨by repeat (first | (with_reducible first | exact HB.out | apply below_alloc | apply pw_below_drewN | apply below_drew1 | refine below_set ?_ GE122.out | refine below_set ?_ GE130.out) | exact HB.out)⟩⟩
        case round =>
          clear H'
          try clear c1
          try clear c2
          try clear p2
          try clear c4
          try clear p6
          try clear c11
          try clear c13
          try clear c13b0
          try clear c15
          try clear c16
          try clear hcz12_0
          try clear hcz12_1
          try clear hcz12_2
          try clear hcz12_3
          try clear hcz12_4
          try clear hcz12_5
          try clear hcz12_6
          try clear hcz12_7
          try clear hcz12_8
          try clear hcz17_0
          try clear hcz17_1
          try clear hcz17_2
          try clear hcz17_3
          try clear hcz17_4
          try clear hcz17_5
          try clear hcz17_6
          try clear hcz17_7
          try clear hcz17_8
          try clear hfz12_0
          try clear hfz12_1
          try clear hfz12_2
          try clear hfz12_3
          try clear hfz12_4
          try clear hfz12_5
          try clear hfz12_6
          try clear hfz12_7
          try clear hfz12_8
          try clear hfz17_0
          try clear hfz17_1
          try clear hfz17_2
          try clear hfz17_3
          try clear hfz17_4
          try clear hfz17_5
          try clear hfz17_6
          try clear hfz17_7
          try clear hfz17_8
          try clear p2
          obtain ⟨x6_2, x131008_2, rfl, HA, HK2, BK122, BK130, HB⟩ := hrel
          cases gk with
          | zero => exact absurd HA.out (by simp [camshaftref06_Of.l1])
          | succ k2 =>
            have H := HA.out
            clear HA
            simp only [camshaftref06_Of.l1] at H
            by_cases c18 : x6_2 < 32
            · rw [if_pos c18] at H
              have c18b0 : decide (x6_2 < 32) = true := decide_eq_true c18
              clear c18
              by_cases c19 : x6_2 < 4
              · rw [if_pos c19] at H
                have c19b0 : decide (x6_2 < 4) = true := decide_eq_true c19
                clear c19
                by_cases c20 : x131008_2 = true
                · subst c20
                  have H1 : (camshaftref06_Of.l1 k2 a0 (wrap64 (x6_2 + 1)) t126 t125 t124 t123 x131004_1 t127 t128 t129 true) = some (r1, r2, r3, r4, r5, r6, r7, r8, r9) := by rw [if_pos rfl] at H; exact H
                  clear H
                  have H := H1
                  clear H1
                  have H' := Aside0.mk H
                  clear H
                  have hnb21 := NB130_122.out
                  have hnc21 := NB122_130.out
                  have hcz22_0 : wr.cell? ⟨gb130, 0, none⟩ = some (.bool t126) := (blk_cell BK130.out 0).trans rfl
                  have hcz22_1 : wr.cell? ⟨gb130, 1, none⟩ = some (.bool t125) := (blk_cell BK130.out 1).trans rfl
                  have hcz22_2 : wr.cell? ⟨gb130, 2, none⟩ = some (.bool t124) := (blk_cell BK130.out 2).trans rfl
                  have hcz22_3 : wr.cell? ⟨gb130, 3, none⟩ = some (.bool t123) := (blk_cell BK130.out 3).trans rfl
                  have hcz22_4 : wr.cell? ⟨gb130, 4, none⟩ = some (.int .i64 x131004_1) := (blk_cell BK130.out 4).trans rfl
                  have hcz22_5 : wr.cell? ⟨gb130, 5, none⟩ = some (.bool t127) := (blk_cell BK130.out 5).trans rfl
                  have hcz22_6 : wr.cell? ⟨gb130, 6, none⟩ = some (.bool t128) := (blk_cell BK130.out 6).trans rfl
                  have hcz22_7 : wr.cell? ⟨gb130, 7, none⟩ = some (.bool t129) := (blk_cell BK130.out 7).trans rfl
                  have hcz22_8 : wr.cell? ⟨gb130, 8, none⟩ = some (.bool true) := (blk_cell BK130.out 8).trans rfl
                  have hfz22_0 := blk_frozen BK130.out 0
                  have hfz22_1 := blk_frozen BK130.out 1
                  have hfz22_2 := blk_frozen BK130.out 2
                  have hfz22_3 := blk_frozen BK130.out 3
                  have hfz22_4 := blk_frozen BK130.out 4
                  have hfz22_5 := blk_frozen BK130.out 5
                  have hfz22_6 := blk_frozen BK130.out 6
                  have hfz22_7 := blk_frozen BK130.out 7
                  have hfz22_8 := blk_frozen BK130.out 8
                  go_wp2
                  go_roundg k2
                  case measure => have := HK1.out; have := HK2.out; omega
                  case rel => exact ⟨(wrap64 (x6_2 + 1)), (true), (by first | rfl | (simp; done) | (simp [*]; done)), H', ⟨by have := HK1.out; have := HK2.out; omega⟩, ⟨by (with_reducible repeat (first | refine blk_drewN ?_ _ | refine blk_drew ?_ | refine blk_alloc ?_ _)); refine blk_far ?_ NB122_130.out _; (with_reducible repeat (first | refine blk_drewN ?_ _ | refine blk_drew ?_ | refine blk_alloc ?_ _)); exact BK122.out⟩, ⟨by (with_reducible repeat (first | refine blk_drewN ?_ _ | refine blk_drew ?_ | refine blk_alloc ?_ _)); refine blk_put (cs := #[.bool t126, .bool t125, .bool t124, .bool t123, .int .i64 x131004_1, .bool t127, .bool t128, .bool t129, .bool true]) ?_ 8 _ rfl; (with_reducible repeat (first | refine blk_drewN ?_ _ | refine blk_drew ?_ | refine blk_alloc ?_ _)); exact BK130.out⟩, ⟨by repeat (first | (with_reducible first | exact HB.out | apply below_alloc | apply pw_below_drewN | apply below_drew1 | refine below_set ?_ GE122.out | refine below_set ?_ GE130.out) | exact HB.out)⟩⟩
                · replace c20 := Bool.eq_false_iff.mpr c20
                  subst c20
                  have H1 : (camshaftref06_Of.l1 k2 a0 (wrap64 (x6_2 + 1)) t126 t125 t124 t123 x131004_1 t127 t128 t129 false) = some (r1, r2, r3, r4, r5, r6, r7, r8, r9) := by rw [if_neg (show ¬ (false = true) by decide)] at H; exact H
                  clear H
                  have H := H1
                  clear H1
                  have H' := Aside0.mk H
                  clear H
                  have hnb23 := NB130_122.out
                  have hnc23 := NB122_130.out
                  have hcz24_0 : wr.cell? ⟨gb130, 0, none⟩ = some (.bool t126) := (blk_cell BK130.out 0).trans rfl
                  have hcz24_1 : wr.cell? ⟨gb130, 1, none⟩ = some (.bool t125) := (blk_cell BK130.out 1).trans rfl
                  have hcz24_2 : wr.cell? ⟨gb130, 2, none⟩ = some (.bool t124) := (blk_cell BK130.out 2).trans rfl
                  have hcz24_3 : wr.cell? ⟨gb130, 3, none⟩ = some (.bool t123) := (blk_cell BK130.out 3).trans rfl
                  have hcz24_4 : wr.cell? ⟨gb130, 4, none⟩ = some (.int .i64 x131004_1) := (blk_cell BK130.out 4).trans rfl
                  have hcz24_5 : wr.cell? ⟨gb130, 5, none⟩ = some (.bool t127) := (blk_cell BK130.out 5).trans rfl
                  have hcz24_6 : wr.cell? ⟨gb130, 6, none⟩ = some (.bool t128) := (blk_cell BK130.out 6).trans rfl
                  have hcz24_7 : wr.cell? ⟨gb130, 7, none⟩ = some (.bool t129) := (blk_cell BK130.out 7).trans rfl
                  have hcz24_8 : wr.cell? ⟨gb130, 8, none⟩ = some (.bool false) := (blk_cell BK130.out 8).trans rfl
                  have hfz24_0 := blk_frozen BK130.out 0
                  have hfz24_1 := blk_frozen BK130.out 1
                  have hfz24_2 := blk_frozen BK130.out 2
                  have hfz24_3 := blk_frozen BK130.out 3
                  have hfz24_4 := blk_frozen BK130.out 4
                  have hfz24_5 := blk_frozen BK130.out 5
                  have hfz24_6 := blk_frozen BK130.out 6
                  have hfz24_7 := blk_frozen BK130.out 7
                  have hfz24_8 := blk_frozen BK130.out 8
                  go_wp2
                  go_roundg k2
                  case measure => have := HK1.out; have := HK2.out; omega
                  case rel => exact ⟨(wrap64 (x6_2 + 1)), (false), (by first | rfl | (simp; done) | (simp [*]; done)), H', ⟨by have := HK1.out; have := HK2.out; omega⟩, ⟨by (with_reducible repeat (first | refine blk_drewN ?_ _ | refine blk_drew ?_ | refine blk_alloc ?_ _)); refine blk_far ?_ NB122_130.out _; (with_reducible repeat (first | refine blk_drewN ?_ _ | refine blk_drew ?_ | refine blk_alloc ?_ _)); exact BK122.out⟩, ⟨by (with_reducible repeat (first | refine blk_drewN ?_ _ | refine blk_drew ?_ | refine blk_alloc ?_ _)); refine blk_put (cs := #[.bool t126, .bool t125, .bool t124, .bool t123, .int .i64 x131004_1, .bool t127, .bool t128, .bool t129, .bool false]) ?_ 8 _ rfl; (with_reducible repeat (first | refine blk_drewN ?_ _ | refine blk_drew ?_ | refine blk_alloc ?_ _)); exact BK130.out⟩, ⟨by repeat (first | (with_reducible first | exact HB.out | apply below_alloc | apply pw_below_drewN | apply below_drew1 | refine below_set ?_ GE122.out | refine below_set ?_ GE130.out) | exact HB.out)⟩⟩
              · rw [if_neg c19] at H
                have c19b0 : decide (x6_2 < 4) = false := decide_eq_false c19
                clear c19
                by_cases c25 : x6_2 ≥ 16
                · rw [if_pos c25] at H
                  have c25b0 : decide (16 ≤ x6_2) = true := decide_eq_true c25
                  clear c25
                  by_cases c26 : x6_2 ≤ 20
                  · rw [if_pos c26] at H
                    have c26b0 : decide (x6_2 ≤ 20) = true := decide_eq_true c26
                    clear c26
                    by_cases c27 : x131008_2 = true
                    · subst c27
                      have H1 : (camshaftref06_Of.l1 k2 a0 (wrap64 (x6_2 + 1)) t126 t125 t124 t123 x131004_1 t127 t128 t129 true) = some (r1, r2, r3, r4, r5, r6, r7, r8, r9) := by rw [if_pos rfl] at H; exact H
                      clear H
                      have H := H1
                      clear H1
                      have H' := Aside0.mk H
                      clear H
                      have hnb28 := NB130_122.out
                      have hnc28 := NB122_130.out
                      have hcz29_0 : wr.cell? ⟨gb130, 0, none⟩ = some (.bool t126) := (blk_cell BK130.out 0).trans rfl
                      have hcz29_1 : wr.cell? ⟨gb130, 1, none⟩ = some (.bool t125) := (blk_cell BK130.out 1).trans rfl
                      have hcz29_2 : wr.cell? ⟨gb130, 2, none⟩ = some (.bool t124) := (blk_cell BK130.out 2).trans rfl
                      have hcz29_3 : wr.cell? ⟨gb130, 3, none⟩ = some (.bool t123) := (blk_cell BK130.out 3).trans rfl
                      have hcz29_4 : wr.cell? ⟨gb130, 4, none⟩ = some (.int .i64 x131004_1) := (blk_cell BK130.out 4).trans rfl
                      have hcz29_5 : wr.cell? ⟨gb130, 5, none⟩ = some (.bool t127) := (blk_cell BK130.out 5).trans rfl
                      have hcz29_6 : wr.cell? ⟨gb130, 6, none⟩ = some (.bool t128) := (blk_cell BK130.out 6).trans rfl
                      have hcz29_7 : wr.cell? ⟨gb130, 7, none⟩ = some (.bool t129) := (blk_cell BK130.out 7).trans rfl
                      have hcz29_8 : wr.cell? ⟨gb130, 8, none⟩ = some (.bool true) := (blk_cell BK130.out 8).trans rfl
                      have hfz29_0 := blk_frozen BK130.out 0
                      have hfz29_1 := blk_frozen BK130.out 1
                      have hfz29_2 := blk_frozen BK130.out 2
                      have hfz29_3 := blk_frozen BK130.out 3
                      have hfz29_4 := blk_frozen BK130.out 4
                      have hfz29_5 := blk_frozen BK130.out 5
                      have hfz29_6 := blk_frozen BK130.out 6
                      have hfz29_7 := blk_frozen BK130.out 7
                      have hfz29_8 := blk_frozen BK130.out 8
                      go_wp2
                      go_roundg k2
                      case measure => have := HK1.out; have := HK2.out; omega
                      case rel => exact ⟨(wrap64 (x6_2 + 1)), (true), (by first | rfl | (simp; done) | (simp [*]; done)), H', ⟨by have := HK1.out; have := HK2.out; omega⟩, ⟨by (with_reducible repeat (first | refine blk_drewN ?_ _ | refine blk_drew ?_ | refine blk_alloc ?_ _)); refine blk_far ?_ NB122_130.out _; (with_reducible repeat (first | refine blk_drewN ?_ _ | refine blk_drew ?_ | refine blk_alloc ?_ _)); exact BK122.out⟩, ⟨by (with_reducible repeat (first | refine blk_drewN ?_ _ | refine blk_drew ?_ | refine blk_alloc ?_ _)); refine blk_put (cs := #[.bool t126, .bool t125, .bool t124, .bool t123, .int .i64 x131004_1, .bool t127, .bool t128, .bool t129, .bool true]) ?_ 8 _ rfl; (with_reducible repeat (first | refine blk_drewN ?_ _ | refine blk_drew ?_ | refine blk_alloc ?_ _)); exact BK130.out⟩, ⟨by repeat (first | (with_reducible first | exact HB.out | apply below_alloc | apply pw_below_drewN | apply below_drew1 | refine below_set ?_ GE122.out | refine below_set ?_ GE130.out) | exact HB.out)⟩⟩
                    · replace c27 := Bool.eq_false_iff.mpr c27
                      subst c27
                      have H1 : (camshaftref06_Of.l1 k2 a0 (wrap64 (x6_2 + 1)) t126 t125 t124 t123 x131004_1 t127 t128 t129 false) = some (r1, r2, r3, r4, r5, r6, r7, r8, r9) := by rw [if_neg (show ¬ (false = true) by decide)] at H; exact H
                      clear H
                      have H := H1
                      clear H1
                      have H' := Aside0.mk H
                      clear H
                      have hnb30 := NB130_122.out
                      have hnc30 := NB122_130.out
                      have hcz31_0 : wr.cell? ⟨gb130, 0, none⟩ = some (.bool t126) := (blk_cell BK130.out 0).trans rfl
                      have hcz31_1 : wr.cell? ⟨gb130, 1, none⟩ = some (.bool t125) := (blk_cell BK130.out 1).trans rfl
                      have hcz31_2 : wr.cell? ⟨gb130, 2, none⟩ = some (.bool t124) := (blk_cell BK130.out 2).trans rfl
                      have hcz31_3 : wr.cell? ⟨gb130, 3, none⟩ = some (.bool t123) := (blk_cell BK130.out 3).trans rfl
                      have hcz31_4 : wr.cell? ⟨gb130, 4, none⟩ = some (.int .i64 x131004_1) := (blk_cell BK130.out 4).trans rfl
                      have hcz31_5 : wr.cell? ⟨gb130, 5, none⟩ = some (.bool t127) := (blk_cell BK130.out 5).trans rfl
                      have hcz31_6 : wr.cell? ⟨gb130, 6, none⟩ = some (.bool t128) := (blk_cell BK130.out 6).trans rfl
                      have hcz31_7 : wr.cell? ⟨gb130, 7, none⟩ = some (.bool t129) := (blk_cell BK130.out 7).trans rfl
                      have hcz31_8 : wr.cell? ⟨gb130, 8, none⟩ = some (.bool false) := (blk_cell BK130.out 8).trans rfl
                      have hfz31_0 := blk_frozen BK130.out 0
                      have hfz31_1 := blk_frozen BK130.out 1
                      have hfz31_2 := blk_frozen BK130.out 2
                      have hfz31_3 := blk_frozen BK130.out 3
                      have hfz31_4 := blk_frozen BK130.out 4
                      have hfz31_5 := blk_frozen BK130.out 5
                      have hfz31_6 := blk_frozen BK130.out 6
                      have hfz31_7 := blk_frozen BK130.out 7
                      have hfz31_8 := blk_frozen BK130.out 8
                      go_wp2
                      go_roundg k2
                      case measure => have := HK1.out; have := HK2.out; omega
                      case rel => exact ⟨(wrap64 (x6_2 + 1)), (false), (by first | rfl | (simp; done) | (simp [*]; done)), H', ⟨by have := HK1.out; have := HK2.out; omega⟩, ⟨by (with_reducible repeat (first | refine blk_drewN ?_ _ | refine blk_drew ?_ | refine blk_alloc ?_ _)); refine blk_far ?_ NB122_130.out _; (with_reducible repeat (first | refine blk_drewN ?_ _ | refine blk_drew ?_ | refine blk_alloc ?_ _)); exact BK122.out⟩, ⟨by (with_reducible repeat (first | refine blk_drewN ?_ _ | refine blk_drew ?_ | refine blk_alloc ?_ _)); refine blk_put (cs := #[.bool t126, .bool t125, .bool t124, .bool t123, .int .i64 x131004_1, .bool t127, .bool t128, .bool t129, .bool false]) ?_ 8 _ rfl; (with_reducible repeat (first | refine blk_drewN ?_ _ | refine blk_drew ?_ | refine blk_alloc ?_ _)); exact BK130.out⟩, ⟨by repeat (first | (with_reducible first | exact HB.out | apply below_alloc | apply pw_below_drewN | apply below_drew1 | refine below_set ?_ GE122.out | refine below_set ?_ GE130.out) | exact HB.out)⟩⟩
                  · rw [if_neg c26] at H
                    have c26b0 : decide (x6_2 ≤ 20) = false := decide_eq_false c26
                    clear c26
                    by_cases c32 : x6_2 = 22
                    · rw [if_pos c32] at H
                      have c32b0 : (x6_2 == 22) = true := beq_iff_eq.mpr c32
                      have c32b1 : (x6_2 != 22) = false := bne_eq_false_iff_eq.mpr c32
                      clear c32
                      by_cases c33 : x131008_2 = true
                      · subst c33
                        have H1 : (camshaftref06_Of.l1 k2 a0 (wrap64 (x6_2 + 1)) t126 t125 t124 t123 x131004_1 t127 t128 t129 true) = some (r1, r2, r3, r4, r5, r6, r7, r8, r9) := by rw [if_pos rfl] at H; exact H
                        clear H
                        have H := H1
                        clear H1
                        have H' := Aside0.mk H
                        clear H
                        have hnb34 := NB130_122.out
                        have hnc34 := NB122_130.out
                        have hcz35_0 : wr.cell? ⟨gb130, 0, none⟩ = some (.bool t126) := (blk_cell BK130.out 0).trans rfl
                        have hcz35_1 : wr.cell? ⟨gb130, 1, none⟩ = some (.bool t125) := (blk_cell BK130.out 1).trans rfl
                        have hcz35_2 : wr.cell? ⟨gb130, 2, none⟩ = some (.bool t124) := (blk_cell BK130.out 2).trans rfl
                        have hcz35_3 : wr.cell? ⟨gb130, 3, none⟩ = some (.bool t123) := (blk_cell BK130.out 3).trans rfl
                        have hcz35_4 : wr.cell? ⟨gb130, 4, none⟩ = some (.int .i64 x131004_1) := (blk_cell BK130.out 4).trans rfl
                        have hcz35_5 : wr.cell? ⟨gb130, 5, none⟩ = some (.bool t127) := (blk_cell BK130.out 5).trans rfl
                        have hcz35_6 : wr.cell? ⟨gb130, 6, none⟩ = some (.bool t128) := (blk_cell BK130.out 6).trans rfl
                        have hcz35_7 : wr.cell? ⟨gb130, 7, none⟩ = some (.bool t129) := (blk_cell BK130.out 7).trans rfl
                        have hcz35_8 : wr.cell? ⟨gb130, 8, none⟩ = some (.bool true) := (blk_cell BK130.out 8).trans rfl
                        have hfz35_0 := blk_frozen BK130.out 0
                        have hfz35_1 := blk_frozen BK130.out 1
                        have hfz35_2 := blk_frozen BK130.out 2
                        have hfz35_3 := blk_frozen BK130.out 3
                        have hfz35_4 := blk_frozen BK130.out 4
                        have hfz35_5 := blk_frozen BK130.out 5
                        have hfz35_6 := blk_frozen BK130.out 6
                        have hfz35_7 := blk_frozen BK130.out 7
                        have hfz35_8 := blk_frozen BK130.out 8
                        go_wp2
                        go_roundg k2
                        case measure => have := HK1.out; have := HK2.out; omega
                        case rel => exact ⟨(wrap64 (x6_2 + 1)), (true), (by first | rfl | (simp; done) | (simp [*]; done)), H', ⟨by have := HK1.out; have := HK2.out; omega⟩, ⟨by (with_reducible repeat (first | refine blk_drewN ?_ _ | refine blk_drew ?_ | refine blk_alloc ?_ _)); refine blk_far ?_ NB122_130.out _; (with_reducible repeat (first | refine blk_drewN ?_ _ | refine blk_drew ?_ | refine blk_alloc ?_ _)); exact BK122.out⟩, ⟨by (with_reducible repeat (first | refine blk_drewN ?_ _ | refine blk_drew ?_ | refine blk_alloc ?_ _)); refine blk_put (cs := #[.bool t126, .bool t125, .bool t124, .bool t123, .int .i64 x131004_1, .bool t127, .bool t128, .bool t129, .bool true]) ?_ 8 _ rfl; (with_reducible repeat (first | refine blk_drewN ?_ _ | refine blk_drew ?_ | refine blk_alloc ?_ _)); exact BK130.out⟩, ⟨by repeat (first | (with_reducible first | exact HB.out | apply below_alloc | apply pw_below_drewN | apply below_drew1 | refine below_set ?_ GE122.out | refine below_set ?_ GE130.out) | exact HB.out)⟩⟩
                      · replace c33 := Bool.eq_false_iff.mpr c33
                        subst c33
                        have H1 : (camshaftref06_Of.l1 k2 a0 (wrap64 (x6_2 + 1)) t126 t125 t124 t123 x131004_1 t127 t128 t129 false) = some (r1, r2, r3, r4, r5, r6, r7, r8, r9) := by rw [if_neg (show ¬ (false = true) by decide)] at H; exact H
                        clear H
                        have H := H1
                        clear H1
                        have H' := Aside0.mk H
                        clear H
                        have hnb36 := NB130_122.out
                        have hnc36 := NB122_130.out
                        have hcz37_0 : wr.cell? ⟨gb130, 0, none⟩ = some (.bool t126) := (blk_cell BK130.out 0).trans rfl
                        have hcz37_1 : wr.cell? ⟨gb130, 1, none⟩ = some (.bool t125) := (blk_cell BK130.out 1).trans rfl
                        have hcz37_2 : wr.cell? ⟨gb130, 2, none⟩ = some (.bool t124) := (blk_cell BK130.out 2).trans rfl
                        have hcz37_3 : wr.cell? ⟨gb130, 3, none⟩ = some (.bool t123) := (blk_cell BK130.out 3).trans rfl
                        have hcz37_4 : wr.cell? ⟨gb130, 4, none⟩ = some (.int .i64 x131004_1) := (blk_cell BK130.out 4).trans rfl
                        have hcz37_5 : wr.cell? ⟨gb130, 5, none⟩ = some (.bool t127) := (blk_cell BK130.out 5).trans rfl
                        have hcz37_6 : wr.cell? ⟨gb130, 6, none⟩ = some (.bool t128) := (blk_cell BK130.out 6).trans rfl
                        have hcz37_7 : wr.cell? ⟨gb130, 7, none⟩ = some (.bool t129) := (blk_cell BK130.out 7).trans rfl
                        have hcz37_8 : wr.cell? ⟨gb130, 8, none⟩ = some (.bool false) := (blk_cell BK130.out 8).trans rfl
                        have hfz37_0 := blk_frozen BK130.out 0
                        have hfz37_1 := blk_frozen BK130.out 1
                        have hfz37_2 := blk_frozen BK130.out 2
                        have hfz37_3 := blk_frozen BK130.out 3
                        have hfz37_4 := blk_frozen BK130.out 4
                        have hfz37_5 := blk_frozen BK130.out 5
                        have hfz37_6 := blk_frozen BK130.out 6
                        have hfz37_7 := blk_frozen BK130.out 7
                        have hfz37_8 := blk_frozen BK130.out 8
                        go_wp2
                        go_roundg k2
                        case measure => have := HK1.out; have := HK2.out; omega
                        case rel => exact ⟨(wrap64 (x6_2 + 1)), (false), (by first | rfl | (simp; done) | (simp [*]; done)), H', ⟨by have := HK1.out; have := HK2.out; omega⟩, ⟨by (with_reducible repeat (first | refine blk_drewN ?_ _ | refine blk_drew ?_ | refine blk_alloc ?_ _)); refine blk_far ?_ NB122_130.out _; (with_reducible repeat (first | refine blk_drewN ?_ _ | refine blk_drew ?_ | refine blk_alloc ?_ _)); exact BK122.out⟩, ⟨by (with_reducible repeat (first | refine blk_drewN ?_ _ | refine blk_drew ?_ | refine blk_alloc ?_ _)); refine blk_put (cs := #[.bool t126, .bool t125, .bool t124, .bool t123, .int .i64 x131004_1, .bool t127, .bool t128, .bool t129, .bool false]) ?_ 8 _ rfl; (with_reducible repeat (first | refine blk_drewN ?_ _ | refine blk_drew ?_ | refine blk_alloc ?_ _)); exact BK130.out⟩, ⟨by repeat (first | (with_reducible first | exact HB.out | apply below_alloc | apply pw_below_drewN | apply below_drew1 | refine below_set ?_ GE122.out | refine below_set ?_ GE130.out) | exact HB.out)⟩⟩
                    · rw [if_neg c32] at H
                      have c32b0 : (x6_2 == 22) = false := beq_eq_false_iff_ne.mpr c32
                      have c32b1 : (x6_2 != 22) = true := bne_iff_ne.mpr c32
                      by_cases c38 : x6_2 = 24
                      · rw [if_pos c38] at H
                        have c38b0 : (x6_2 == 24) = true := beq_iff_eq.mpr c38
                        have c38b1 : (x6_2 != 24) = false := bne_eq_false_iff_eq.mpr c38
                        clear c38
                        by_cases c39 : x131008_2 = true
                        · subst c39
                          have H1 : (camshaftref06_Of.l1 k2 a0 (wrap64 (x6_2 + 1)) t126 t125 t124 t123 x131004_1 t127 t128 t129 true) = some (r1, r2, r3, r4, r5, r6, r7, r8, r9) := by rw [if_pos rfl] at H; exact H
                          clear H
                          have H := H1
                          clear H1
                          have H' := Aside0.mk H
                          clear H
                          have hnb40 := NB130_122.out
                          have hnc40 := NB122_130.out
                          have hcz41_0 : wr.cell? ⟨gb130, 0, none⟩ = some (.bool t126) := (blk_cell BK130.out 0).trans rfl
                          have hcz41_1 : wr.cell? ⟨gb130, 1, none⟩ = some (.bool t125) := (blk_cell BK130.out 1).trans rfl
                          have hcz41_2 : wr.cell? ⟨gb130, 2, none⟩ = some (.bool t124) := (blk_cell BK130.out 2).trans rfl
                          have hcz41_3 : wr.cell? ⟨gb130, 3, none⟩ = some (.bool t123) := (blk_cell BK130.out 3).trans rfl
                          have hcz41_4 : wr.cell? ⟨gb130, 4, none⟩ = some (.int .i64 x131004_1) := (blk_cell BK130.out 4).trans rfl
                          have hcz41_5 : wr.cell? ⟨gb130, 5, none⟩ = some (.bool t127) := (blk_cell BK130.out 5).trans rfl
                          have hcz41_6 : wr.cell? ⟨gb130, 6, none⟩ = some (.bool t128) := (blk_cell BK130.out 6).trans rfl
                          have hcz41_7 : wr.cell? ⟨gb130, 7, none⟩ = some (.bool t129) := (blk_cell BK130.out 7).trans rfl
                          have hcz41_8 : wr.cell? ⟨gb130, 8, none⟩ = some (.bool true) := (blk_cell BK130.out 8).trans rfl
                          have hfz41_0 := blk_frozen BK130.out 0
                          have hfz41_1 := blk_frozen BK130.out 1
                          have hfz41_2 := blk_frozen BK130.out 2
                          have hfz41_3 := blk_frozen BK130.out 3
                          have hfz41_4 := blk_frozen BK130.out 4
                          have hfz41_5 := blk_frozen BK130.out 5
                          have hfz41_6 := blk_frozen BK130.out 6
                          have hfz41_7 := blk_frozen BK130.out 7
                          have hfz41_8 := blk_frozen BK130.out 8
                          go_wp2
                          go_roundg k2
                          case measure => have := HK1.out; have := HK2.out; omega
                          case rel => exact ⟨(wrap64 (x6_2 + 1)), (true), (by first | rfl | (simp; done) | (simp [*]; done)), H', ⟨by have := HK1.out; have := HK2.out; omega⟩, ⟨by (with_reducible repeat (first | refine blk_drewN ?_ _ | refine blk_drew ?_ | refine blk_alloc ?_ _)); refine blk_far ?_ NB122_130.out _; (with_reducible repeat (first | refine blk_drewN ?_ _ | refine blk_drew ?_ | refine blk_alloc ?_ _)); exact BK122.out⟩, ⟨by (with_reducible repeat (first | refine blk_drewN ?_ _ | refine blk_drew ?_ | refine blk_alloc ?_ _)); refine blk_put (cs := #[.bool t126, .bool t125, .bool t124, .bool t123, .int .i64 x131004_1, .bool t127, .bool t128, .bool t129, .bool true]) ?_ 8 _ rfl; (with_reducible repeat (first | refine blk_drewN ?_ _ | refine blk_drew ?_ | refine blk_alloc ?_ _)); exact BK130.out⟩, ⟨by repeat (first | (with_reducible first | exact HB.out | apply below_alloc | apply pw_below_drewN | apply below_drew1 | refine below_set ?_ GE122.out | refine below_set ?_ GE130.out) | exact HB.out)⟩⟩
                        · replace c39 := Bool.eq_false_iff.mpr c39
                          subst c39
                          have H1 : (camshaftref06_Of.l1 k2 a0 (wrap64 (x6_2 + 1)) t126 t125 t124 t123 x131004_1 t127 t128 t129 false) = some (r1, r2, r3, r4, r5, r6, r7, r8, r9) := by rw [if_neg (show ¬ (false = true) by decide)] at H; exact H
                          clear H
                          have H := H1
                          clear H1
                          have H' := Aside0.mk H
                          clear H
                          have hnb42 := NB130_122.out
                          have hnc42 := NB122_130.out
                          have hcz43_0 : wr.cell? ⟨gb130, 0, none⟩ = some (.bool t126) := (blk_cell BK130.out 0).trans rfl
                          have hcz43_1 : wr.cell? ⟨gb130, 1, none⟩ = some (.bool t125) := (blk_cell BK130.out 1).trans rfl
                          have hcz43_2 : wr.cell? ⟨gb130, 2, none⟩ = some (.bool t124) := (blk_cell BK130.out 2).trans rfl
                          have hcz43_3 : wr.cell? ⟨gb130, 3, none⟩ = some (.bool t123) := (blk_cell BK130.out 3).trans rfl
                          have hcz43_4 : wr.cell? ⟨gb130, 4, none⟩ = some (.int .i64 x131004_1) := (blk_cell BK130.out 4).trans rfl
                          have hcz43_5 : wr.cell? ⟨gb130, 5, none⟩ = some (.bool t127) := (blk_cell BK130.out 5).trans rfl
                          have hcz43_6 : wr.cell? ⟨gb130, 6, none⟩ = some (.bool t128) := (blk_cell BK130.out 6).trans rfl
                          have hcz43_7 : wr.cell? ⟨gb130, 7, none⟩ = some (.bool t129) := (blk_cell BK130.out 7).trans rfl
                          have hcz43_8 : wr.cell? ⟨gb130, 8, none⟩ = some (.bool false) := (blk_cell BK130.out 8).trans rfl
                          have hfz43_0 := blk_frozen BK130.out 0
                          have hfz43_1 := blk_frozen BK130.out 1
                          have hfz43_2 := blk_frozen BK130.out 2
                          have hfz43_3 := blk_frozen BK130.out 3
                          have hfz43_4 := blk_frozen BK130.out 4
                          have hfz43_5 := blk_frozen BK130.out 5
                          have hfz43_6 := blk_frozen BK130.out 6
                          have hfz43_7 := blk_frozen BK130.out 7
                          have hfz43_8 := blk_frozen BK130.out 8
                          go_wp2
                          go_roundg k2
                          case measure => have := HK1.out; have := HK2.out; omega
                          case rel => exact ⟨(wrap64 (x6_2 + 1)), (false), (by first | rfl | (simp; done) | (simp [*]; done)), H', ⟨by have := HK1.out; have := HK2.out; omega⟩, ⟨by (with_reducible repeat (first | refine blk_drewN ?_ _ | refine blk_drew ?_ | refine blk_alloc ?_ _)); refine blk_far ?_ NB122_130.out _; (with_reducible repeat (first | refine blk_drewN ?_ _ | refine blk_drew ?_ | refine blk_alloc ?_ _)); exact BK122.out⟩, ⟨by (with_reducible repeat (first | refine blk_drewN ?_ _ | refine blk_drew ?_ | refine blk_alloc ?_ _)); refine blk_put (cs := #[.bool t126, .bool t125, .bool t124, .bool t123, .int .i64 x131004_1, .bool t127, .bool t128, .bool t129, .bool false]) ?_ 8 _ rfl; (with_reducible repeat (first | refine blk_drewN ?_ _ | refine blk_drew ?_ | refine blk_alloc ?_ _)); exact BK130.out⟩, ⟨by repeat (first | (with_reducible first | exact HB.out | apply below_alloc | apply pw_below_drewN | apply below_drew1 | refine below_set ?_ GE122.out | refine below_set ?_ GE130.out) | exact HB.out)⟩⟩
                      · rw [if_neg c38] at H
                        have c38b0 : (x6_2 == 24) = false := beq_eq_false_iff_ne.mpr c38
                        have c38b1 : (x6_2 != 24) = true := bne_iff_ne.mpr c38
                        by_cases c44 : x131008_2 = true
                        · subst c44
                          have H1 : (camshaftref06_Of.l1 k2 a0 (wrap64 (x6_2 + 1)) t126 t125 t124 t123 x131004_1 t127 t128 t129 true) = some (r1, r2, r3, r4, r5, r6, r7, r8, r9) := by rw [if_pos rfl] at H; exact H
                          clear H
                          have H := H1
                          clear H1
                          have H' := Aside0.mk H
                          clear H
                          have hnb45 := NB130_122.out
                          have hnc45 := NB122_130.out
                          have hcz46_0 : wr.cell? ⟨gb130, 0, none⟩ = some (.bool t126) := (blk_cell BK130.out 0).trans rfl
                          have hcz46_1 : wr.cell? ⟨gb130, 1, none⟩ = some (.bool t125) := (blk_cell BK130.out 1).trans rfl
                          have hcz46_2 : wr.cell? ⟨gb130, 2, none⟩ = some (.bool t124) := (blk_cell BK130.out 2).trans rfl
                          have hcz46_3 : wr.cell? ⟨gb130, 3, none⟩ = some (.bool t123) := (blk_cell BK130.out 3).trans rfl
                          have hcz46_4 : wr.cell? ⟨gb130, 4, none⟩ = some (.int .i64 x131004_1) := (blk_cell BK130.out 4).trans rfl
                          have hcz46_5 : wr.cell? ⟨gb130, 5, none⟩ = some (.bool t127) := (blk_cell BK130.out 5).trans rfl
                          have hcz46_6 : wr.cell? ⟨gb130, 6, none⟩ = some (.bool t128) := (blk_cell BK130.out 6).trans rfl
                          have hcz46_7 : wr.cell? ⟨gb130, 7, none⟩ = some (.bool t129) := (blk_cell BK130.out 7).trans rfl
                          have hcz46_8 : wr.cell? ⟨gb130, 8, none⟩ = some (.bool true) := (blk_cell BK130.out 8).trans rfl
                          have hfz46_0 := blk_frozen BK130.out 0
                          have hfz46_1 := blk_frozen BK130.out 1
                          have hfz46_2 := blk_frozen BK130.out 2
                          have hfz46_3 := blk_frozen BK130.out 3
                          have hfz46_4 := blk_frozen BK130.out 4
                          have hfz46_5 := blk_frozen BK130.out 5
                          have hfz46_6 := blk_frozen BK130.out 6
                          have hfz46_7 := blk_frozen BK130.out 7
                          have hfz46_8 := blk_frozen BK130.out 8
                          go_wp2
                          go_roundg k2
                          case measure => have := HK1.out; have := HK2.out; omega
                          case rel => exact ⟨(wrap64 (x6_2 + 1)), (true), (by first | rfl | (simp; done) | (simp [*]; done)), H', ⟨by have := HK1.out; have := HK2.out; omega⟩, ⟨by (with_reducible repeat (first | refine blk_drewN ?_ _ | refine blk_drew ?_ | refine blk_alloc ?_ _)); refine blk_far ?_ NB122_130.out _; (with_reducible repeat (first | refine blk_drewN ?_ _ | refine blk_drew ?_ | refine blk_alloc ?_ _)); exact BK122.out⟩, ⟨by (with_reducible repeat (first | refine blk_drewN ?_ _ | refine blk_drew ?_ | refine blk_alloc ?_ _)); refine blk_put (cs := #[.bool t126, .bool t125, .bool t124, .bool t123, .int .i64 x131004_1, .bool t127, .bool t128, .bool t129, .bool true]) ?_ 8 _ rfl; (with_reducible repeat (first | refine blk_drewN ?_ _ | refine blk_drew ?_ | refine blk_alloc ?_ _)); exact BK130.out⟩, ⟨by repeat (first | (with_reducible first | exact HB.out | apply below_alloc | apply pw_below_drewN | apply below_drew1 | refine below_set ?_ GE122.out | refine below_set ?_ GE130.out) | exact HB.out)⟩⟩
                        · replace c44 := Bool.eq_false_iff.mpr c44
                          subst c44
                          have H1 : (if x6_2 = 27 then (camshaftref06_Of.l1 k2 a0 (wrap64 (x6_2 + 1)) t126 t125 t124 t123 x131004_1 t127 t128 t129 false) else ((camshaftref03_Bit.f k2 a0 x6_2).bind fun t132 => (camshaftref06_Of.l1 k2 a0 (wrap64 (x6_2 + 1)) t126 t125 t124 t123 x131004_1 t127 t128 t129 t132))) = some (r1, r2, r3, r4, r5, r6, r7, r8, r9) := by rw [if_neg (show ¬ (false = true) by decide)] at H; exact H
                          clear H
                          have H := H1
                          clear H1
                          by_cases c47 : x6_2 = 27
                          · rw [if_pos c47] at H
                            have c47b0 : (x6_2 == 27) = true := beq_iff_eq.mpr c47
                            have c47b1 : (x6_2 != 27) = false := bne_eq_false_iff_eq.mpr c47
                            clear c47
                            have H' := Aside0.mk H
                            clear H
                            have hnb48 := NB130_122.out
                            have hnc48 := NB122_130.out
                            have hcz49_0 : wr.cell? ⟨gb130, 0, none⟩ = some (.bool t126) := (blk_cell BK130.out 0).trans rfl
                            have hcz49_1 : wr.cell? ⟨gb130, 1, none⟩ = some (.bool t125) := (blk_cell BK130.out 1).trans rfl
                            have hcz49_2 : wr.cell? ⟨gb130, 2, none⟩ = some (.bool t124) := (blk_cell BK130.out 2).trans rfl
                            have hcz49_3 : wr.cell? ⟨gb130, 3, none⟩ = some (.bool t123) := (blk_cell BK130.out 3).trans rfl
                            have hcz49_4 : wr.cell? ⟨gb130, 4, none⟩ = some (.int .i64 x131004_1) := (blk_cell BK130.out 4).trans rfl
                            have hcz49_5 : wr.cell? ⟨gb130, 5, none⟩ = some (.bool t127) := (blk_cell BK130.out 5).trans rfl
                            have hcz49_6 : wr.cell? ⟨gb130, 6, none⟩ = some (.bool t128) := (blk_cell BK130.out 6).trans rfl
                            have hcz49_7 : wr.cell? ⟨gb130, 7, none⟩ = some (.bool t129) := (blk_cell BK130.out 7).trans rfl
                            have hcz49_8 : wr.cell? ⟨gb130, 8, none⟩ = some (.bool false) := (blk_cell BK130.out 8).trans rfl
                            have hfz49_0 := blk_frozen BK130.out 0
                            have hfz49_1 := blk_frozen BK130.out 1
                            have hfz49_2 := blk_frozen BK130.out 2
                            have hfz49_3 := blk_frozen BK130.out 3
                            have hfz49_4 := blk_frozen BK130.out 4
                            have hfz49_5 := blk_frozen BK130.out 5
                            have hfz49_6 := blk_frozen BK130.out 6
                            have hfz49_7 := blk_frozen BK130.out 7
                            have hfz49_8 := blk_frozen BK130.out 8
                            go_wp2
                            go_roundg k2
                            case measure => have := HK1.out; have := HK2.out; omega
                            case rel => exact ⟨(wrap64 (x6_2 + 1)), (false), (by first | rfl | (simp; done) | (simp [*]; done)), H', ⟨by have := HK1.out; have := HK2.out; omega⟩, ⟨by (with_reducible repeat (first | refine blk_drewN ?_ _ | refine blk_drew ?_ | refine blk_alloc ?_ _)); refine blk_far ?_ NB122_130.out _; (with_reducible repeat (first | refine blk_drewN ?_ _ | refine blk_drew ?_ | refine blk_alloc ?_ _)); exact BK122.out⟩, ⟨by (with_reducible repeat (first | refine blk_drewN ?_ _ | refine blk_drew ?_ | refine blk_alloc ?_ _)); refine blk_put (cs := #[.bool t126, .bool t125, .bool t124, .bool t123, .int .i64 x131004_1, .bool t127, .bool t128, .bool t129, .bool false]) ?_ 8 _ rfl; (with_reducible repeat (first | refine blk_drewN ?_ _ | refine blk_drew ?_ | refine blk_alloc ?_ _)); exact BK130.out⟩, ⟨by repeat (first | (with_reducible first | exact HB.out | apply below_alloc | apply pw_below_drewN | apply below_drew1 | refine below_set ?_ GE122.out | refine below_set ?_ GE130.out) | exact HB.out)⟩⟩
                          · rw [if_neg c47] at H
                            have c47b0 : (x6_2 == 27) = false := beq_eq_false_iff_ne.mpr c47
                            have c47b1 : (x6_2 != 27) = true := bne_iff_ne.mpr c47
                            replace H := Option.bind_eq_some_iff.mp H
                            obtain ⟨t132, A500, H⟩ := H
                            replace H : (camshaftref06_Of.l1 k2 a0 (wrap64 (x6_2 + 1)) t126 t125 t124 t123 x131004_1 t127 t128 t129 t132) = some (r1, r2, r3, r4, r5, r6, r7, r8, r9) := H
                            have A50 := Aside0.mk A500
                            clear A500
                            have H' := Aside0.mk H
                            clear H
                            have hnb51 := NB130_122.out
                            have hnc51 := NB122_130.out
                            have hcz52_0 : wr.cell? ⟨gb130, 0, none⟩ = some (.bool t126) := (blk_cell BK130.out 0).trans rfl
                            have hcz52_1 : wr.cell? ⟨gb130, 1, none⟩ = some (.bool t125) := (blk_cell BK130.out 1).trans rfl
                            have hcz52_2 : wr.cell? ⟨gb130, 2, none⟩ = some (.bool t124) := (blk_cell BK130.out 2).trans rfl
                            have hcz52_3 : wr.cell? ⟨gb130, 3, none⟩ = some (.bool t123) := (blk_cell BK130.out 3).trans rfl
                            have hcz52_4 : wr.cell? ⟨gb130, 4, none⟩ = some (.int .i64 x131004_1) := (blk_cell BK130.out 4).trans rfl
                            have hcz52_5 : wr.cell? ⟨gb130, 5, none⟩ = some (.bool t127) := (blk_cell BK130.out 5).trans rfl
                            have hcz52_6 : wr.cell? ⟨gb130, 6, none⟩ = some (.bool t128) := (blk_cell BK130.out 6).trans rfl
                            have hcz52_7 : wr.cell? ⟨gb130, 7, none⟩ = some (.bool t129) := (blk_cell BK130.out 7).trans rfl
                            have hcz52_8 : wr.cell? ⟨gb130, 8, none⟩ = some (.bool false) := (blk_cell BK130.out 8).trans rfl
                            have hfz52_0 := blk_frozen BK130.out 0
                            have hfz52_1 := blk_frozen BK130.out 1
                            have hfz52_2 := blk_frozen BK130.out 2
                            have hfz52_3 := blk_frozen BK130.out 3
                            have hfz52_4 := blk_frozen BK130.out 4
                            have hfz52_5 := blk_frozen BK130.out 5
                            have hfz52_6 := blk_frozen BK130.out 6
                            have hfz52_7 := blk_frozen BK130.out 7
                            have hfz52_8 := blk_frozen BK130.out 8
                            go_wp2_with (first | (go_at_call 41; (with_reducible refine (camshaftref03_Bit.calls k2 a0 x6_2 t132 _ A50.out).mono ?_); rintro e w' ⟨rfl, ⟨nd, rfl⟩⟩; (try (rw [drewN_self wr]; generalize hq_ : World.drewN wr _ = wr; have n0_ : Aside0 (wr.heap[gb122]? = some (.cells #[.bool false, .bool false, .bool false, .bool false, .int .i64 0, .bool false, .bool false, .bool false, .bool false] 34 (0, 0))) := ⟨by rw [← hq_]; exact (by (with_reducible repeat (first | refine blk_drewN ?_ _ | refine blk_drew ?_ | refine blk_alloc ?_ _)); exact BK122.out)⟩; have n1_ : Aside0 (wr.heap[gb130]? = some (.cells #[.bool t126, .bool t125, .bool t124, .bool t123, .int .i64 x131004_1, .bool t127, .bool t128, .bool t129, .bool false] 34 (0, 0))) := ⟨by rw [← hq_]; exact (by (with_reducible repeat (first | refine blk_drewN ?_ _ | refine blk_drew ?_ | refine blk_alloc ?_ _)); exact BK130.out)⟩; have n2_ : Aside0 (Below w.heap.size w wr) := ⟨by rw [← hq_]; exact (by repeat (first | (with_reducible first | exact HB.out | apply below_alloc | apply pw_below_drewN | apply below_drew1 | refine below_set ?_ GE122.out | refine below_set ?_ GE130.out) | exact HB.out))⟩; clear BK122 BK130 HB hq_; have BK122 := n0_; have BK130 := n1_; have HB := n2_; clear n0_ n1_ n2_; clear hcz52_0 hcz52_1 hcz52_2 hcz52_3 hcz52_4 hcz52_5 hcz52_6 hcz52_7 hcz52_8 hfz52_0 hfz52_1 hfz52_2 hfz52_3 hfz52_4 hfz52_5 hfz52_6 hfz52_7 hfz52_8; have hcz52_0 : wr.cell? ⟨gb130, 0, none⟩ = some (.bool t126) := (blk_cell BK130.out 0).trans rfl; have hcz52_1 : wr.cell? ⟨gb130, 1, none⟩ = some (.bool t125) := (blk_cell BK130.out 1).trans rfl; have hcz52_2 : wr.cell? ⟨gb130, 2, none⟩ = some (.bool t124) := (blk_cell BK130.out 2).trans rfl; have hcz52_3 : wr.cell? ⟨gb130, 3, none⟩ = some (.bool t123) := (blk_cell BK130.out 3).trans rfl; have hcz52_4 : wr.cell? ⟨gb130, 4, none⟩ = some (.int .i64 x131004_1) := (blk_cell BK130.out 4).trans rfl; have hcz52_5 : wr.cell? ⟨gb130, 5, none⟩ = some (.bool t127) := (blk_cell BK130.out 5).trans rfl; have hcz52_6 : wr.cell? ⟨gb130, 6, none⟩ = some (.bool t128) := (blk_cell BK130.out 6).trans rfl; have hcz52_7 : wr.cell? ⟨gb130, 7, none⟩ = some (.bool t129) := (blk_cell BK130.out 7).trans rfl; have hcz52_8 : wr.cell? ⟨gb130, 8, none⟩ = some (.bool false) := (blk_cell BK130.out 8).trans rfl; have hfz52_0 := blk_frozen BK130.out 0; have hfz52_1 := blk_frozen BK130.out 1; have hfz52_2 := blk_frozen BK130.out 2; have hfz52_3 := blk_frozen BK130.out 3; have hfz52_4 := blk_frozen BK130.out 4; have hfz52_5 := blk_frozen BK130.out 5; have hfz52_6 := blk_frozen BK130.out 6; have hfz52_7 := blk_frozen BK130.out 7; have hfz52_8 := blk_frozen BK130.out 8))))
                            go_roundg k2
                            case measure => have := HK1.out; have := HK2.out; omega
                            case rel => exact ⟨(wrap64 (x6_2 + 1)), (t132), (by first | rfl | (simp; done) | (simp [*]; done)), H', ⟨by have := HK1.out; have := HK2.out; omega⟩, ⟨by (with_reducible repeat (first | refine blk_drewN ?_ _ | refine blk_drew ?_ | refine blk_alloc ?_ _)); refine blk_far ?_ NB122_130.out _; (with_reducible repeat (first | refine blk_drewN ?_ _ | refine blk_drew ?_ | refine blk_alloc ?_ _)); exact BK122.out⟩, ⟨by (with_reducible repeat (first | refine blk_drewN ?_ _ | refine blk_drew ?_ | refine blk_alloc ?_ _)); refine blk_put (cs := #[.bool t126, .bool t125, .bool t124, .bool t123, .int .i64 x131004_1, .bool t127, .bool t128, .bool t129, .bool false]) ?_ 8 _ rfl; (with_reducible repeat (first | refine blk_drewN ?_ _ | refine blk_drew ?_ | refine blk_alloc ?_ _)); exact BK130.out⟩, ⟨by repeat (first | (with_reducible first | exact HB.out | apply below_alloc | apply pw_below_drewN | apply below_drew1 | refine below_set ?_ GE122.out | refine below_set ?_ GE130.out) | exact HB.out)⟩⟩
                · rw [if_neg c25] at H
                  have c25b0 : decide (16 ≤ x6_2) = false := decide_eq_false c25
                  clear c25
                  by_cases c53 : x6_2 = 22
                  · rw [if_pos c53] at H
                    have c53b0 : (x6_2 == 22) = true := beq_iff_eq.mpr c53
                    have c53b1 : (x6_2 != 22) = false := bne_eq_false_iff_eq.mpr c53
                    clear c53
                    by_cases c54 : x131008_2 = true
                    · subst c54
                      have H1 : (camshaftref06_Of.l1 k2 a0 (wrap64 (x6_2 + 1)) t126 t125 t124 t123 x131004_1 t127 t128 t129 true) = some (r1, r2, r3, r4, r5, r6, r7, r8, r9) := by rw [if_pos rfl] at H; exact H
                      clear H
                      have H := H1
                      clear H1
                      have H' := Aside0.mk H
                      clear H
                      have hnb55 := NB130_122.out
                      have hnc55 := NB122_130.out
                      have hcz56_0 : wr.cell? ⟨gb130, 0, none⟩ = some (.bool t126) := (blk_cell BK130.out 0).trans rfl
                      have hcz56_1 : wr.cell? ⟨gb130, 1, none⟩ = some (.bool t125) := (blk_cell BK130.out 1).trans rfl
                      have hcz56_2 : wr.cell? ⟨gb130, 2, none⟩ = some (.bool t124) := (blk_cell BK130.out 2).trans rfl
                      have hcz56_3 : wr.cell? ⟨gb130, 3, none⟩ = some (.bool t123) := (blk_cell BK130.out 3).trans rfl
                      have hcz56_4 : wr.cell? ⟨gb130, 4, none⟩ = some (.int .i64 x131004_1) := (blk_cell BK130.out 4).trans rfl
                      have hcz56_5 : wr.cell? ⟨gb130, 5, none⟩ = some (.bool t127) := (blk_cell BK130.out 5).trans rfl
                      have hcz56_6 : wr.cell? ⟨gb130, 6, none⟩ = some (.bool t128) := (blk_cell BK130.out 6).trans rfl
                      have hcz56_7 : wr.cell? ⟨gb130, 7, none⟩ = some (.bool t129) := (blk_cell BK130.out 7).trans rfl
                      have hcz56_8 : wr.cell? ⟨gb130, 8, none⟩ = some (.bool true) := (blk_cell BK130.out 8).trans rfl
                      have hfz56_0 := blk_frozen BK130.out 0
                      have hfz56_1 := blk_frozen BK130.out 1
                      have hfz56_2 := blk_frozen BK130.out 2
                      have hfz56_3 := blk_frozen BK130.out 3
                      have hfz56_4 := blk_frozen BK130.out 4
                      have hfz56_5 := blk_frozen BK130.out 5
                      have hfz56_6 := blk_frozen BK130.out 6
                      have hfz56_7 := blk_frozen BK130.out 7
                      have hfz56_8 := blk_frozen BK130.out 8
                      go_wp2
                      go_roundg k2
                      case measure => have := HK1.out; have := HK2.out; omega
                      case rel => exact ⟨(wrap64 (x6_2 + 1)), (true), (by first | rfl | (simp; done) | (simp [*]; done)), H', ⟨by have := HK1.out; have := HK2.out; omega⟩, ⟨by (with_reducible repeat (first | refine blk_drewN ?_ _ | refine blk_drew ?_ | refine blk_alloc ?_ _)); refine blk_far ?_ NB122_130.out _; (with_reducible repeat (first | refine blk_drewN ?_ _ | refine blk_drew ?_ | refine blk_alloc ?_ _)); exact BK122.out⟩, ⟨by (with_reducible repeat (first | refine blk_drewN ?_ _ | refine blk_drew ?_ | refine blk_alloc ?_ _)); refine blk_put (cs := #[.bool t126, .bool t125, .bool t124, .bool t123, .int .i64 x131004_1, .bool t127, .bool t128, .bool t129, .bool true]) ?_ 8 _ rfl; (with_reducible repeat (first | refine blk_drewN ?_ _ | refine blk_drew ?_ | refine blk_alloc ?_ _)); exact BK130.out⟩, ⟨by repeat (first | (with_reducible first | exact HB.out | apply below_alloc | apply pw_below_drewN | apply below_drew1 | refine below_set ?_ GE122.out | refine below_set ?_ GE130.out) | exact HB.out)⟩⟩
                    · replace c54 := Bool.eq_false_iff.mpr c54
                      subst c54
                      have H1 : (camshaftref06_Of.l1 k2 a0 (wrap64 (x6_2 + 1)) t126 t125 t124 t123 x131004_1 t127 t128 t129 false) = some (r1, r2, r3, r4, r5, r6, r7, r8, r9) := by rw [if_neg (show ¬ (false = true) by decide)] at H; exact H
                      clear H
                      have H := H1
                      clear H1
                      have H' := Aside0.mk H
                      clear H
                      have hnb57 := NB130_122.out
                      have hnc57 := NB122_130.out
                      have hcz58_0 : wr.cell? ⟨gb130, 0, none⟩ = some (.bool t126) := (blk_cell BK130.out 0).trans rfl
                      have hcz58_1 : wr.cell? ⟨gb130, 1, none⟩ = some (.bool t125) := (blk_cell BK130.out 1).trans rfl
                      have hcz58_2 : wr.cell? ⟨gb130, 2, none⟩ = some (.bool t124) := (blk_cell BK130.out 2).trans rfl
                      have hcz58_3 : wr.cell? ⟨gb130, 3, none⟩ = some (.bool t123) := (blk_cell BK130.out 3).trans rfl
                      have hcz58_4 : wr.cell? ⟨gb130, 4, none⟩ = some (.int .i64 x131004_1) := (blk_cell BK130.out 4).trans rfl
                      have hcz58_5 : wr.cell? ⟨gb130, 5, none⟩ = some (.bool t127) := (blk_cell BK130.out 5).trans rfl
                      have hcz58_6 : wr.cell? ⟨gb130, 6, none⟩ = some (.bool t128) := (blk_cell BK130.out 6).trans rfl
                      have hcz58_7 : wr.cell? ⟨gb130, 7, none⟩ = some (.bool t129) := (blk_cell BK130.out 7).trans rfl
                      have hcz58_8 : wr.cell? ⟨gb130, 8, none⟩ = some (.bool false) := (blk_cell BK130.out 8).trans rfl
                      have hfz58_0 := blk_frozen BK130.out 0
                      have hfz58_1 := blk_frozen BK130.out 1
                      have hfz58_2 := blk_frozen BK130.out 2
                      have hfz58_3 := blk_frozen BK130.out 3
                      have hfz58_4 := blk_frozen BK130.out 4
                      have hfz58_5 := blk_frozen BK130.out 5
                      have hfz58_6 := blk_frozen BK130.out 6
                      have hfz58_7 := blk_frozen BK130.out 7
                      have hfz58_8 := blk_frozen BK130.out 8
                      go_wp2
                      go_roundg k2
                      case measure => have := HK1.out; have := HK2.out; omega
                      case rel => exact ⟨(wrap64 (x6_2 + 1)), (false), (by first | rfl | (simp; done) | (simp [*]; done)), H', ⟨by have := HK1.out; have := HK2.out; omega⟩, ⟨by (with_reducible repeat (first | refine blk_drewN ?_ _ | refine blk_drew ?_ | refine blk_alloc ?_ _)); refine blk_far ?_ NB122_130.out _; (with_reducible repeat (first | refine blk_drewN ?_ _ | refine blk_drew ?_ | refine blk_alloc ?_ _)); exact BK122.out⟩, ⟨by (with_reducible repeat (first | refine blk_drewN ?_ _ | refine blk_drew ?_ | refine blk_alloc ?_ _)); refine blk_put (cs := #[.bool t126, .bool t125, .bool t124, .bool t123, .int .i64 x131004_1, .bool t127, .bool t128, .bool t129, .bool false]) ?_ 8 _ rfl; (with_reducible repeat (first | refine blk_drewN ?_ _ | refine blk_drew ?_ | refine blk_alloc ?_ _)); exact BK130.out⟩, ⟨by repeat (first | (with_reducible first | exact HB.out | apply below_alloc | apply pw_below_drewN | apply below_drew1 | refine below_set ?_ GE122.out | refine below_set ?_ GE130.out) | exact HB.out)⟩⟩
                  · rw [if_neg c53] at H
                    have c53b0 : (x6_2 == 22) = false := beq_eq_false_iff_ne.mpr c53
                    have c53b1 : (x6_2 != 22) = true := bne_iff_ne.mpr c53
                    by_cases c59 : x6_2 = 24
                    · rw [if_pos c59] at H
                      have c59b0 : (x6_2 == 24) = true := beq_iff_eq.mpr c59
                      have c59b1 : (x6_2 != 24) = false := bne_eq_false_iff_eq.mpr c59
                      clear c59
                      by_cases c60 : x131008_2 = true
                      · subst c60
                        have H1 : (camshaftref06_Of.l1 k2 a0 (wrap64 (x6_2 + 1)) t126 t125 t124 t123 x131004_1 t127 t128 t129 true) = some (r1, r2, r3, r4, r5, r6, r7, r8, r9) := by rw [if_pos rfl] at H; exact H
                        clear H
                        have H := H1
                        clear H1
                        have H' := Aside0.mk H
                        clear H
                        have hnb61 := NB130_122.out
                        have hnc61 := NB122_130.out
                        have hcz62_0 : wr.cell? ⟨gb130, 0, none⟩ = some (.bool t126) := (blk_cell BK130.out 0).trans rfl
                        have hcz62_1 : wr.cell? ⟨gb130, 1, none⟩ = some (.bool t125) := (blk_cell BK130.out 1).trans rfl
                        have hcz62_2 : wr.cell? ⟨gb130, 2, none⟩ = some (.bool t124) := (blk_cell BK130.out 2).trans rfl
                        have hcz62_3 : wr.cell? ⟨gb130, 3, none⟩ = some (.bool t123) := (blk_cell BK130.out 3).trans rfl
                        have hcz62_4 : wr.cell? ⟨gb130, 4, none⟩ = some (.int .i64 x131004_1) := (blk_cell BK130.out 4).trans rfl
                        have hcz62_5 : wr.cell? ⟨gb130, 5, none⟩ = some (.bool t127) := (blk_cell BK130.out 5).trans rfl
                        have hcz62_6 : wr.cell? ⟨gb130, 6, none⟩ = some (.bool t128) := (blk_cell BK130.out 6).trans rfl
                        have hcz62_7 : wr.cell? ⟨gb130, 7, none⟩ = some (.bool t129) := (blk_cell BK130.out 7).trans rfl
                        have hcz62_8 : wr.cell? ⟨gb130, 8, none⟩ = some (.bool true) := (blk_cell BK130.out 8).trans rfl
                        have hfz62_0 := blk_frozen BK130.out 0
                        have hfz62_1 := blk_frozen BK130.out 1
                        have hfz62_2 := blk_frozen BK130.out 2
                        have hfz62_3 := blk_frozen BK130.out 3
                        have hfz62_4 := blk_frozen BK130.out 4
                        have hfz62_5 := blk_frozen BK130.out 5
                        have hfz62_6 := blk_frozen BK130.out 6
                        have hfz62_7 := blk_frozen BK130.out 7
                        have hfz62_8 := blk_frozen BK130.out 8
                        go_wp2
                        go_roundg k2
                        case measure => have := HK1.out; have := HK2.out; omega
                        case rel => exact ⟨(wrap64 (x6_2 + 1)), (true), (by first | rfl | (simp; done) | (simp [*]; done)), H', ⟨by have := HK1.out; have := HK2.out; omega⟩, ⟨by (with_reducible repeat (first | refine blk_drewN ?_ _ | refine blk_drew ?_ | refine blk_alloc ?_ _)); refine blk_far ?_ NB122_130.out _; (with_reducible repeat (first | refine blk_drewN ?_ _ | refine blk_drew ?_ | refine blk_alloc ?_ _)); exact BK122.out⟩, ⟨by (with_reducible repeat (first | refine blk_drewN ?_ _ | refine blk_drew ?_ | refine blk_alloc ?_ _)); refine blk_put (cs := #[.bool t126, .bool t125, .bool t124, .bool t123, .int .i64 x131004_1, .bool t127, .bool t128, .bool t129, .bool true]) ?_ 8 _ rfl; (with_reducible repeat (first | refine blk_drewN ?_ _ | refine blk_drew ?_ | refine blk_alloc ?_ _)); exact BK130.out⟩, ⟨by repeat (first | (with_reducible first | exact HB.out | apply below_alloc | apply pw_below_drewN | apply below_drew1 | refine below_set ?_ GE122.out | refine below_set ?_ GE130.out) | exact HB.out)⟩⟩
                      · replace c60 := Bool.eq_false_iff.mpr c60
                        subst c60
                        have H1 : (camshaftref06_Of.l1 k2 a0 (wrap64 (x6_2 + 1)) t126 t125 t124 t123 x131004_1 t127 t128 t129 false) = some (r1, r2, r3, r4, r5, r6, r7, r8, r9) := by rw [if_neg (show ¬ (false = true) by decide)] at H; exact H
                        clear H
                        have H := H1
                        clear H1
                        have H' := Aside0.mk H
                        clear H
                        have hnb63 := NB130_122.out
                        have hnc63 := NB122_130.out
                        have hcz64_0 : wr.cell? ⟨gb130, 0, none⟩ = some (.bool t126) := (blk_cell BK130.out 0).trans rfl
                        have hcz64_1 : wr.cell? ⟨gb130, 1, none⟩ = some (.bool t125) := (blk_cell BK130.out 1).trans rfl
                        have hcz64_2 : wr.cell? ⟨gb130, 2, none⟩ = some (.bool t124) := (blk_cell BK130.out 2).trans rfl
                        have hcz64_3 : wr.cell? ⟨gb130, 3, none⟩ = some (.bool t123) := (blk_cell BK130.out 3).trans rfl
                        have hcz64_4 : wr.cell? ⟨gb130, 4, none⟩ = some (.int .i64 x131004_1) := (blk_cell BK130.out 4).trans rfl
                        have hcz64_5 : wr.cell? ⟨gb130, 5, none⟩ = some (.bool t127) := (blk_cell BK130.out 5).trans rfl
                        have hcz64_6 : wr.cell? ⟨gb130, 6, none⟩ = some (.bool t128) := (blk_cell BK130.out 6).trans rfl
                        have hcz64_7 : wr.cell? ⟨gb130, 7, none⟩ = some (.bool t129) := (blk_cell BK130.out 7).trans rfl
                        have hcz64_8 : wr.cell? ⟨gb130, 8, none⟩ = some (.bool false) := (blk_cell BK130.out 8).trans rfl
                        have hfz64_0 := blk_frozen BK130.out 0
                        have hfz64_1 := blk_frozen BK130.out 1
                        have hfz64_2 := blk_frozen BK130.out 2
                        have hfz64_3 := blk_frozen BK130.out 3
                        have hfz64_4 := blk_frozen BK130.out 4
                        have hfz64_5 := blk_frozen BK130.out 5
                        have hfz64_6 := blk_frozen BK130.out 6
                        have hfz64_7 := blk_frozen BK130.out 7
                        have hfz64_8 := blk_frozen BK130.out 8
                        go_wp2
                        go_roundg k2
                        case measure => have := HK1.out; have := HK2.out; omega
                        case rel => exact ⟨(wrap64 (x6_2 + 1)), (false), (by first | rfl | (simp; done) | (simp [*]; done)), H', ⟨by have := HK1.out; have := HK2.out; omega⟩, ⟨by (with_reducible repeat (first | refine blk_drewN ?_ _ | refine blk_drew ?_ | refine blk_alloc ?_ _)); refine blk_far ?_ NB122_130.out _; (with_reducible repeat (first | refine blk_drewN ?_ _ | refine blk_drew ?_ | refine blk_alloc ?_ _)); exact BK122.out⟩, ⟨by (with_reducible repeat (first | refine blk_drewN ?_ _ | refine blk_drew ?_ | refine blk_alloc ?_ _)); refine blk_put (cs := #[.bool t126, .bool t125, .bool t124, .bool t123, .int .i64 x131004_1, .bool t127, .bool t128, .bool t129, .bool false]) ?_ 8 _ rfl; (with_reducible repeat (first | refine blk_drewN ?_ _ | refine blk_drew ?_ | refine blk_alloc ?_ _)); exact BK130.out⟩, ⟨by repeat (first | (with_reducible first | exact HB.out | apply below_alloc | apply pw_below_drewN | apply below_drew1 | refine below_set ?_ GE122.out | refine below_set ?_ GE130.out) | exact HB.out)⟩⟩
                    · rw [if_neg c59] at H
                      have c59b0 : (x6_2 == 24) = false := beq_eq_false_iff_ne.mpr c59
                      have c59b1 : (x6_2 != 24) = true := bne_iff_ne.mpr c59
                      by_cases c65 : x131008_2 = true
                      · subst c65
                        have H1 : (camshaftref06_Of.l1 k2 a0 (wrap64 (x6_2 + 1)) t126 t125 t124 t123 x131004_1 t127 t128 t129 true) = some (r1, r2, r3, r4, r5, r6, r7, r8, r9) := by rw [if_pos rfl] at H; exact H
                        clear H
                        have H := H1
                        clear H1
                        have H' := Aside0.mk H
                        clear H
                        have hnb66 := NB130_122.out
                        have hnc66 := NB122_130.out
                        have hcz67_0 : wr.cell? ⟨gb130, 0, none⟩ = some (.bool t126) := (blk_cell BK130.out 0).trans rfl
                        have hcz67_1 : wr.cell? ⟨gb130, 1, none⟩ = some (.bool t125) := (blk_cell BK130.out 1).trans rfl
                        have hcz67_2 : wr.cell? ⟨gb130, 2, none⟩ = some (.bool t124) := (blk_cell BK130.out 2).trans rfl
                        have hcz67_3 : wr.cell? ⟨gb130, 3, none⟩ = some (.bool t123) := (blk_cell BK130.out 3).trans rfl
                        have hcz67_4 : wr.cell? ⟨gb130, 4, none⟩ = some (.int .i64 x131004_1) := (blk_cell BK130.out 4).trans rfl
                        have hcz67_5 : wr.cell? ⟨gb130, 5, none⟩ = some (.bool t127) := (blk_cell BK130.out 5).trans rfl
                        have hcz67_6 : wr.cell? ⟨gb130, 6, none⟩ = some (.bool t128) := (blk_cell BK130.out 6).trans rfl
                        have hcz67_7 : wr.cell? ⟨gb130, 7, none⟩ = some (.bool t129) := (blk_cell BK130.out 7).trans rfl
                        have hcz67_8 : wr.cell? ⟨gb130, 8, none⟩ = some (.bool true) := (blk_cell BK130.out 8).trans rfl
                        have hfz67_0 := blk_frozen BK130.out 0
                        have hfz67_1 := blk_frozen BK130.out 1
                        have hfz67_2 := blk_frozen BK130.out 2
                        have hfz67_3 := blk_frozen BK130.out 3
                        have hfz67_4 := blk_frozen BK130.out 4
                        have hfz67_5 := blk_frozen BK130.out 5
                        have hfz67_6 := blk_frozen BK130.out 6
                        have hfz67_7 := blk_frozen BK130.out 7
                        have hfz67_8 := blk_frozen BK130.out 8
                        go_wp2
                        go_roundg k2
                        case measure => have := HK1.out; have := HK2.out; omega
                        case rel => exact ⟨(wrap64 (x6_2 + 1)), (true), (by first | rfl | (simp; done) | (simp [*]; done)), H', ⟨by have := HK1.out; have := HK2.out; omega⟩, ⟨by (with_reducible repeat (first | refine blk_drewN ?_ _ | refine blk_drew ?_ | refine blk_alloc ?_ _)); refine blk_far ?_ NB122_130.out _; (with_reducible repeat (first | refine blk_drewN ?_ _ | refine blk_drew ?_ | refine blk_alloc ?_ _)); exact BK122.out⟩, ⟨by (with_reducible repeat (first | refine blk_drewN ?_ _ | refine blk_drew ?_ | refine blk_alloc ?_ _)); refine blk_put (cs := #[.bool t126, .bool t125, .bool t124, .bool t123, .int .i64 x131004_1, .bool t127, .bool t128, .bool t129, .bool true]) ?_ 8 _ rfl; (with_reducible repeat (first | refine blk_drewN ?_ _ | refine blk_drew ?_ | refine blk_alloc ?_ _)); exact BK130.out⟩, ⟨by repeat (first | (with_reducible first | exact HB.out | apply below_alloc | apply pw_below_drewN | apply below_drew1 | refine below_set ?_ GE122.out | refine below_set ?_ GE130.out) | exact HB.out)⟩⟩
                      · replace c65 := Bool.eq_false_iff.mpr c65
                        subst c65
                        have H1 : (if x6_2 = 27 then (camshaftref06_Of.l1 k2 a0 (wrap64 (x6_2 + 1)) t126 t125 t124 t123 x131004_1 t127 t128 t129 false) else ((camshaftref03_Bit.f k2 a0 x6_2).bind fun t133 => (camshaftref06_Of.l1 k2 a0 (wrap64 (x6_2 + 1)) t126 t125 t124 t123 x131004_1 t127 t128 t129 t133))) = some (r1, r2, r3, r4, r5, r6, r7, r8, r9) := by rw [if_neg (show ¬ (false = true) by decide)] at H; exact H
                        clear H
                        have H := H1
                        clear H1
                        by_cases c68 : x6_2 = 27
                        · rw [if_pos c68] at H
                          have c68b0 : (x6_2 == 27) = true := beq_iff_eq.mpr c68
                          have c68b1 : (x6_2 != 27) = false := bne_eq_false_iff_eq.mpr c68
                          clear c68
                          have H' := Aside0.mk H
                          clear H
                          have hnb69 := NB130_122.out
                          have hnc69 := NB122_130.out
                          have hcz70_0 : wr.cell? ⟨gb130, 0, none⟩ = some (.bool t126) := (blk_cell BK130.out 0).trans rfl
                          have hcz70_1 : wr.cell? ⟨gb130, 1, none⟩ = some (.bool t125) := (blk_cell BK130.out 1).trans rfl
                          have hcz70_2 : wr.cell? ⟨gb130, 2, none⟩ = some (.bool t124) := (blk_cell BK130.out 2).trans rfl
                          have hcz70_3 : wr.cell? ⟨gb130, 3, none⟩ = some (.bool t123) := (blk_cell BK130.out 3).trans rfl
                          have hcz70_4 : wr.cell? ⟨gb130, 4, none⟩ = some (.int .i64 x131004_1) := (blk_cell BK130.out 4).trans rfl
                          have hcz70_5 : wr.cell? ⟨gb130, 5, none⟩ = some (.bool t127) := (blk_cell BK130.out 5).trans rfl
                          have hcz70_6 : wr.cell? ⟨gb130, 6, none⟩ = some (.bool t128) := (blk_cell BK130.out 6).trans rfl
                          have hcz70_7 : wr.cell? ⟨gb130, 7, none⟩ = some (.bool t129) := (blk_cell BK130.out 7).trans rfl
                          have hcz70_8 : wr.cell? ⟨gb130, 8, none⟩ = some (.bool false) := (blk_cell BK130.out 8).trans rfl
                          have hfz70_0 := blk_frozen BK130.out 0
                          have hfz70_1 := blk_frozen BK130.out 1
                          have hfz70_2 := blk_frozen BK130.out 2
                          have hfz70_3 := blk_frozen BK130.out 3
                          have hfz70_4 := blk_frozen BK130.out 4
                          have hfz70_5 := blk_frozen BK130.out 5
                          have hfz70_6 := blk_frozen BK130.out 6
                          have hfz70_7 := blk_frozen BK130.out 7
                          have hfz70_8 := blk_frozen BK130.out 8
                          go_wp2
                          go_roundg k2
                          case measure => have := HK1.out; have := HK2.out; omega
                          case rel => exact ⟨(wrap64 (x6_2 + 1)), (false), (by first | rfl | (simp; done) | (simp [*]; done)), H', ⟨by have := HK1.out; have := HK2.out; omega⟩, ⟨by (with_reducible repeat (first | refine blk_drewN ?_ _ | refine blk_drew ?_ | refine blk_alloc ?_ _)); refine blk_far ?_ NB122_130.out _; (with_reducible repeat (first | refine blk_drewN ?_ _ | refine blk_drew ?_ | refine blk_alloc ?_ _)); exact BK122.out⟩, ⟨by (with_reducible repeat (first | refine blk_drewN ?_ _ | refine blk_drew ?_ | refine blk_alloc ?_ _)); refine blk_put (cs := #[.bool t126, .bool t125, .bool t124, .bool t123, .int .i64 x131004_1, .bool t127, .bool t128, .bool t129, .bool false]) ?_ 8 _ rfl; (with_reducible repeat (first | refine blk_drewN ?_ _ | refine blk_drew ?_ | refine blk_alloc ?_ _)); exact BK130.out⟩, ⟨by repeat (first | (with_reducible first | exact HB.out | apply below_alloc | apply pw_below_drewN | apply below_drew1 | refine below_set ?_ GE122.out | refine below_set ?_ GE130.out) | exact HB.out)⟩⟩
                        · rw [if_neg c68] at H
                          have c68b0 : (x6_2 == 27) = false := beq_eq_false_iff_ne.mpr c68
                          have c68b1 : (x6_2 != 27) = true := bne_iff_ne.mpr c68
                          replace H := Option.bind_eq_some_iff.mp H
                          obtain ⟨t133, A710, H⟩ := H
                          replace H : (camshaftref06_Of.l1 k2 a0 (wrap64 (x6_2 + 1)) t126 t125 t124 t123 x131004_1 t127 t128 t129 t133) = some (r1, r2, r3, r4, r5, r6, r7, r8, r9) := H
                          have A71 := Aside0.mk A710
                          clear A710
                          have H' := Aside0.mk H
                          clear H
                          have hnb72 := NB130_122.out
                          have hnc72 := NB122_130.out
                          have hcz73_0 : wr.cell? ⟨gb130, 0, none⟩ = some (.bool t126) := (blk_cell BK130.out 0).trans rfl
                          have hcz73_1 : wr.cell? ⟨gb130, 1, none⟩ = some (.bool t125) := (blk_cell BK130.out 1).trans rfl
                          have hcz73_2 : wr.cell? ⟨gb130, 2, none⟩ = some (.bool t124) := (blk_cell BK130.out 2).trans rfl
                          have hcz73_3 : wr.cell? ⟨gb130, 3, none⟩ = some (.bool t123) := (blk_cell BK130.out 3).trans rfl
                          have hcz73_4 : wr.cell? ⟨gb130, 4, none⟩ = some (.int .i64 x131004_1) := (blk_cell BK130.out 4).trans rfl
                          have hcz73_5 : wr.cell? ⟨gb130, 5, none⟩ = some (.bool t127) := (blk_cell BK130.out 5).trans rfl
                          have hcz73_6 : wr.cell? ⟨gb130, 6, none⟩ = some (.bool t128) := (blk_cell BK130.out 6).trans rfl
                          have hcz73_7 : wr.cell? ⟨gb130, 7, none⟩ = some (.bool t129) := (blk_cell BK130.out 7).trans rfl
                          have hcz73_8 : wr.cell? ⟨gb130, 8, none⟩ = some (.bool false) := (blk_cell BK130.out 8).trans rfl
                          have hfz73_0 := blk_frozen BK130.out 0
                          have hfz73_1 := blk_frozen BK130.out 1
                          have hfz73_2 := blk_frozen BK130.out 2
                          have hfz73_3 := blk_frozen BK130.out 3
                          have hfz73_4 := blk_frozen BK130.out 4
                          have hfz73_5 := blk_frozen BK130.out 5
                          have hfz73_6 := blk_frozen BK130.out 6
                          have hfz73_7 := blk_frozen BK130.out 7
                          have hfz73_8 := blk_frozen BK130.out 8
                          go_wp2_with (first | (go_at_call 41; (with_reducible refine (camshaftref03_Bit.calls k2 a0 x6_2 t133 _ A71.out).mono ?_); rintro e w' ⟨rfl, ⟨nd, rfl⟩⟩; (try (rw [drewN_self wr]; generalize hq_ : World.drewN wr _ = wr; have n0_ : Aside0 (wr.heap[gb122]? = some (.cells #[.bool false, .bool false, .bool false, .bool false, .int .i64 0, .bool false, .bool false, .bool false, .bool false] 34 (0, 0))) := ⟨by rw [← hq_]; exact (by (with_reducible repeat (first | refine blk_drewN ?_ _ | refine blk_drew ?_ | refine blk_alloc ?_ _)); exact BK122.out)⟩; have n1_ : Aside0 (wr.heap[gb130]? = some (.cells #[.bool t126, .bool t125, .bool t124, .bool t123, .int .i64 x131004_1, .bool t127, .bool t128, .bool t129, .bool false] 34 (0, 0))) := ⟨by rw [← hq_]; exact (by (with_reducible repeat (first | refine blk_drewN ?_ _ | refine blk_drew ?_ | refine blk_alloc ?_ _)); exact BK130.out)⟩; have n2_ : Aside0 (Below w.heap.size w wr) := ⟨by rw [← hq_]; exact (by repeat (first | (with_reducible first | exact HB.out | apply below_alloc | apply pw_below_drewN | apply below_drew1 | refine below_set ?_ GE122.out | refine below_set ?_ GE130.out) | exact HB.out))⟩; clear BK122 BK130 HB hq_; have BK122 := n0_; have BK130 := n1_; have HB := n2_; clear n0_ n1_ n2_; clear hcz73_0 hcz73_1 hcz73_2 hcz73_3 hcz73_4 hcz73_5 hcz73_6 hcz73_7 hcz73_8 hfz73_0 hfz73_1 hfz73_2 hfz73_3 hfz73_4 hfz73_5 hfz73_6 hfz73_7 hfz73_8; have hcz73_0 : wr.cell? ⟨gb130, 0, none⟩ = some (.bool t126) := (blk_cell BK130.out 0).trans rfl; have hcz73_1 : wr.cell? ⟨gb130, 1, none⟩ = some (.bool t125) := (blk_cell BK130.out 1).trans rfl; have hcz73_2 : wr.cell? ⟨gb130, 2, none⟩ = some (.bool t124) := (blk_cell BK130.out 2).trans rfl; have hcz73_3 : wr.cell? ⟨gb130, 3, none⟩ = some (.bool t123) := (blk_cell BK130.out 3).trans rfl; have hcz73_4 : wr.cell? ⟨gb130, 4, none⟩ = some (.int .i64 x131004_1) := (blk_cell BK130.out 4).trans rfl; have hcz73_5 : wr.cell? ⟨gb130, 5, none⟩ = some (.bool t127) := (blk_cell BK130.out 5).trans rfl; have hcz73_6 : wr.cell? ⟨gb130, 6, none⟩ = some (.bool t128) := (blk_cell BK130.out 6).trans rfl; have hcz73_7 : wr.cell? ⟨gb130, 7, none⟩ = some (.bool t129) := (blk_cell BK130.out 7).trans rfl; have hcz73_8 : wr.cell? ⟨gb130, 8, none⟩ = some (.bool false) := (blk_cell BK130.out 8).trans rfl; have hfz73_0 := blk_frozen BK130.out 0; have hfz73_1 := blk_frozen BK130.out 1; have hfz73_2 := blk_frozen BK130.out 2; have hfz73_3 := blk_frozen BK130.out 3; have hfz73_4 := blk_frozen BK130.out 4; have hfz73_5 := blk_frozen BK130.out 5; have hfz73_6 := blk_frozen BK130.out 6; have hfz73_7 := blk_frozen BK130.out 7; have hfz73_8 := blk_frozen BK130.out 8))))
                          go_roundg k2
                          case measure => have := HK1.out; have := HK2.out; omega
                          case rel => exact ⟨(wrap64 (x6_2 + 1)), (t133), (by first | rfl | (simp; done) | (simp [*]; done)), H', ⟨by have := HK1.out; have := HK2.out; omega⟩, ⟨by (with_reducible repeat (first | refine blk_drewN ?_ _ | refine blk_drew ?_ | refine blk_alloc ?_ _)); refine blk_far ?_ NB122_130.out _; (with_reducible repeat (first | refine blk_drewN ?_ _ | refine blk_drew ?_ | refine blk_alloc ?_ _)); exact BK122.out⟩, ⟨by (with_reducible repeat (first | refine blk_drewN ?_ _ | refine blk_drew ?_ | refine blk_alloc ?_ _)); refine blk_put (cs := #[.bool t126, .bool t125, .bool t124, .bool t123, .int .i64 x131004_1, .bool t127, .bool t128, .bool t129, .bool false]) ?_ 8 _ rfl; (with_reducible repeat (first | refine blk_drewN ?_ _ | refine blk_drew ?_ | refine blk_alloc ?_ _)); exact BK130.out⟩, ⟨by repeat (first | (with_reducible first | exact HB.out | apply below_alloc | apply pw_below_drewN | apply below_drew1 | refine below_set ?_ GE122.out | refine below_set ?_ GE130.out) | exact HB.out)⟩⟩
            · rw [if_neg c18] at H
              have c18b0 : decide (x6_2 < 32) = false := decide_eq_false c18
              clear c18
              simp only [Option.some.injEq, Prod.mk.injEq] at H
              obtain ⟨rfl, rfl, rfl, rfl, rfl, rfl, rfl, rfl, rfl⟩ := H
              have hnb74 := NB130_122.out
              have hnc74 := NB122_130.out
              have hcz75_0 : wr.cell? ⟨gb130, 0, none⟩ = some (.bool t126) := (blk_cell BK130.out 0).trans rfl
              have hcz75_1 : wr.cell? ⟨gb130, 1, none⟩ = some (.bool t125) := (blk_cell BK130.out 1).trans rfl
              have hcz75_2 : wr.cell? ⟨gb130, 2, none⟩ = some (.bool t124) := (blk_cell BK130.out 2).trans rfl
              have hcz75_3 : wr.cell? ⟨gb130, 3, none⟩ = some (.bool t123) := (blk_cell BK130.out 3).trans rfl
              have hcz75_4 : wr.cell? ⟨gb130, 4, none⟩ = some (.int .i64 x131004_1) := (blk_cell BK130.out 4).trans rfl
              have hcz75_5 : wr.cell? ⟨gb130, 5, none⟩ = some (.bool t127) := (blk_cell BK130.out 5).trans rfl
              have hcz75_6 : wr.cell? ⟨gb130, 6, none⟩ = some (.bool t128) := (blk_cell BK130.out 6).trans rfl
              have hcz75_7 : wr.cell? ⟨gb130, 7, none⟩ = some (.bool t129) := (blk_cell BK130.out 7).trans rfl
              have hcz75_8 : wr.cell? ⟨gb130, 8, none⟩ = some (.bool x131008_2) := (blk_cell BK130.out 8).trans rfl
              have hfz75_0 := blk_frozen BK130.out 0
              have hfz75_1 := blk_frozen BK130.out 1
              have hfz75_2 := blk_frozen BK130.out 2
              have hfz75_3 := blk_frozen BK130.out 3
              have hfz75_4 := blk_frozen BK130.out 4
              have hfz75_5 := blk_frozen BK130.out 5
              have hfz75_6 := blk_frozen BK130.out 6
              have hfz75_7 := blk_frozen BK130.out 7
              have hfz75_8 := blk_frozen BK130.out 8
              have hcz76_0 : wr.cell? ⟨gb122, 0, none⟩ = some (.bool false) := (blk_cell BK122.out 0).trans rfl
              have hcz76_1 : wr.cell? ⟨gb122, 1, none⟩ = some (.bool false) := (blk_cell BK122.out 1).trans rfl
              have hcz76_2 : wr.cell? ⟨gb122, 2, none⟩ = some (.bool false) := (blk_cell BK122.out 2).trans rfl
              have hcz76_3 : wr.cell? ⟨gb122, 3, none⟩ = some (.bool false) := (blk_cell BK122.out 3).trans rfl
              have hcz76_4 : wr.cell? ⟨gb122, 4, none⟩ = some (.int .i64 0) := (blk_cell BK122.out 4).trans rfl
              have hcz76_5 : wr.cell? ⟨gb122, 5, none⟩ = some (.bool false) := (blk_cell BK122.out 5).trans rfl
              have hcz76_6 : wr.cell? ⟨gb122, 6, none⟩ = some (.bool false) := (blk_cell BK122.out 6).trans rfl
              have hcz76_7 : wr.cell? ⟨gb122, 7, none⟩ = some (.bool false) := (blk_cell BK122.out 7).trans rfl
              have hcz76_8 : wr.cell? ⟨gb122, 8, none⟩ = some (.bool false) := (blk_cell BK122.out 8).trans rfl
              have hfz76_0 := blk_frozen BK122.out 0
              have hfz76_1 := blk_frozen BK122.out 1
              have hfz76_2 := blk_frozen BK122.out 2
              have hfz76_3 := blk_frozen BK122.out 3
              have hfz76_4 := blk_frozen BK122.out 4
              have hfz76_5 := blk_frozen BK122.out 5
              have hfz76_6 := blk_frozen BK122.out 6
              have hfz76_7 := blk_frozen BK122.out 7
              have hfz76_8 := blk_frozen BK122.out 8
              go_wp2
              refine bodyPost_ret (results_cell_row rfl _ _ gb122 34 #[.bool t126, .bool t125, .bool t124, .bool t123, .int .i64 x131004_1, .bool t127, .bool t128, .bool t129, .bool x131008_2] (0, 0) _ rfl (by (with_reducible repeat (first | refine blk_drewN ?_ _ | refine blk_drew ?_ | refine blk_alloc ?_ _)); refine blk_put (cs := #[.bool t126, .bool t125, .bool t124, .bool t123, .int .i64 x131004_1, .bool t127, .bool t128, .bool t129, .bool false]) ?_ 8 _ rfl; (with_reducible repeat (first | refine blk_drewN ?_ _ | refine blk_drew ?_ | refine blk_alloc ?_ _)); refine blk_put (cs := #[.bool t126, .bool t125, .bool t124, .bool t123, .int .i64 x131004_1, .bool t127, .bool t128, .bool false, .bool false]) ?_ 7 _ rfl; (with_reducible repeat (first | refine blk_drewN ?_ _ | refine blk_drew ?_ | refine blk_alloc ?_ _)); refine blk_put (cs := #[.bool t126, .bool t125, .bool t124, .bool t123, .int .i64 x131004_1, .bool t127, .bool false, .bool false, .bool false]) ?_ 6 _ rfl; (with_reducible repeat (first | refine blk_drewN ?_ _ | refine blk_drew ?_ | refine blk_alloc ?_ _)); refine blk_put (cs := #[.bool t126, .bool t125, .bool t124, .bool t123, .int .i64 x131004_1, .bool false, .bool false, .bool false, .bool false]) ?_ 5 _ rfl; (with_reducible repeat (first | refine blk_drewN ?_ _ | refine blk_drew ?_ | refine blk_alloc ?_ _)); refine blk_put (cs := #[.bool t126, .bool t125, .bool t124, .bool t123, .int .i64 0, .bool false, .bool false, .bool false, .bool false]) ?_ 4 _ rfl; (with_reducible repeat (first | refine blk_drewN ?_ _ | refine blk_drew ?_ | refine blk_alloc ?_ _)); refine blk_put (cs := #[.bool t126, .bool t125, .bool t124, .bool false, .int .i64 0, .bool false, .bool false, .bool false, .bool false]) ?_ 3 _ rfl; (with_reducible repeat (first | refine blk_drewN ?_ _ | refine blk_drew ?_ | refine blk_alloc ?_ _)); refine blk_put (cs := #[.bool t126, .bool t125, .bool false, .bool false, .int .i64 0, .bool false, .bool false, .bool false, .bool false]) ?_ 2 _ rfl; (with_reducible repeat (first | refine blk_drewN ?_ _ | refine blk_drew ?_ | refine blk_alloc ?_ _)); refine blk_put (cs := #[.bool t126, .bool false, .bool false, .bool false, .int .i64 0, .bool false, .bool false, .bool false, .bool false]) ?_ 1 _ rfl; (with_reducible repeat (first | refine blk_drewN ?_ _ | refine blk_drew ?_ | refine blk_alloc ?_ _)); refine blk_put (cs := #[.bool false, .bool false, .bool false, .bool false, .int .i64 0, .bool false, .bool false, .bool false, .bool false]) ?_ 0 _ rfl; (with_reducible repeat (first | refine blk_drewN ?_ _ | refine blk_drew ?_ | refine blk_alloc ?_ _)); exact BK122.out) Try.underlying34 rfl (by kernel_rfl)) rfl ?_
              exact ⟨by first | rfl | (simp [errW_none, errW_some] <;> rfl) | (simp [*, errW_none, errW_some] <;> rfl), by repeat (first | (with_reducible first | exact HB.out | apply below_alloc | apply pw_below_drewN | apply below_drew1 | refine below_set ?_ GE122.out | refine below_set ?_ GE130.out) | exact HB.out)⟩

end Go.Proofs.Ytjflepoifdcadaa.GPslMakes
