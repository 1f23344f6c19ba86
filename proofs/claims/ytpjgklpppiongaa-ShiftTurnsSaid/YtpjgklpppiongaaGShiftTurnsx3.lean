-- Written by gprint.py, a program of this session: its own text.
import Derived.Test.YtpjgklpppiongaaGShiftTurnsx0
import Derived.Test.YtpjgklpppiongaaGShiftTurnsx2
namespace Go.Proofs.Ytpjgklpppiongaa.GShiftTurns
open Go.RowKit Go.Proofs.YtpjgklpppiongaaW.PrintWords Go.Proofs.YtpjgklpppiongaaW.PrintLast Go.Proofs.YtpjgklpppiongaaW.PrintMore
attribute [local go_sem] max2_int min2_int max_two min_two max_three min_three max_four min_four   -- for this text's walks alone
set_option linter.unusedVariables false
set_option linter.unusedSimpArgs false

/-! ### camshaftlaw09_ShiftTurns: function 5 -/
def camshaftlaw09_ShiftTurns.l0 : Nat → Int → Int → Int → Int → Int → Int → Int → Bool → Bool → Bool → Bool → Option (Bool)
  | 0, _, _, _, _, _, _, _, _, _, _, _ => none
  | k + 1, x2, x7, x9, x11, x13, x15, x16, x149000, x149001, x149002, x149003 => if x16 < 32 then (if 0 ≤ (IntKind.u64.wrap (x16)) then (if (Int.tmod (shr .u32 x2 (IntKind.u64.wrap (x16))) 2) = 1 then (if (Int.tmod (shr .u32 x7 (IntKind.u64.wrap (x16))) 2) = 1 then (camshaftlaw09_ShiftTurns.l0 k x2 x7 x9 x11 x13 (wrap64 ((wrap64 (x15 + 1)) - 1)) (wrap64 (x16 + 1)) x149000 x149001 x149002 x149003) else (camshaftlaw09_ShiftTurns.l0 k x2 x7 x9 x11 x13 (wrap64 (x15 + 1)) (wrap64 (x16 + 1)) x149000 x149001 x149002 x149003)) else (if (Int.tmod (shr .u32 x7 (IntKind.u64.wrap (x16))) 2) = 1 then (camshaftlaw09_ShiftTurns.l0 k x2 x7 x9 x11 x13 (wrap64 (x15 - 1)) (wrap64 (x16 + 1)) x149000 x149001 x149002 x149003) else (camshaftlaw09_ShiftTurns.l0 k x2 x7 x9 x11 x13 x15 (wrap64 (x16 + 1)) x149000 x149001 x149002 x149003))) else (none)) else (if x9 = x11 then (if x13 = x7 then (if x15 = 0 then (if x149003 = true then (some (!x149002)) else (some false)) else (some false)) else (some false)) else (some false))
def camshaftlaw09_ShiftTurns.f (k : Nat) (a0 : Int) (a1 : Int) (a2 : Int) : Option (Bool) := (camshaftlaw09_alive.f).bind fun t130 => (if t130 = true then ((shift_Rot.f a0 a2 false).bind fun bt131 => ((shift_Rot.f a1 bt131.1 true).bind fun bt137 => ((shift_Rot.f ((a0 + a1) % 256) a2 true).bind fun bt143 => ((shift_Rot.f ((a0 + 32) % 256) a2 false).bind fun bt149 => (camshaftlaw09_ShiftTurns.l0 k a2 bt131.1 bt137.1 bt143.1 bt149.1 0 0 bt143.2.1 bt143.2.2.1 bt143.2.2.2.1 bt143.2.2.2.2))))) else (some false))
theorem camshaftlaw09_ShiftTurns.mono_l : ∀ k, (∀ y0 y1 y2 y3 y4 y5 y6 y7 y8 y9 y10, LeO (camshaftlaw09_ShiftTurns.l0 k y0 y1 y2 y3 y4 y5 y6 y7 y8 y9 y10) (camshaftlaw09_ShiftTurns.l0 (k + 1) y0 y1 y2 y3 y4 y5 y6 y7 y8 y9 y10))
  | 0 => fun _ _ _ _ _ _ _ _ _ _ _ r h => by simp [camshaftlaw09_ShiftTurns.l0] at h
  | k + 1 => by
    have ih0 := camshaftlaw09_ShiftTurns.mono_l k
    · intro y0 y1 y2 y3 y4 y5 y6 y7 y8 y9 y10
      unfold camshaftlaw09_ShiftTurns.l0
      repeat' first
      | (with_reducible exact ih0 _ _ _ _ _ _ _ _ _ _ _)
      | (with_reducible exact LeO.refl _)
      | (with_reducible exact LeO.none _)
      | (with_reducible refine LeO.ite ?_ ?_)
      | (with_reducible refine LeO.bind ?_ (fun _ => ?_))
      | exact ih0 _ _ _ _ _ _ _ _ _ _ _
      | exact LeO.none _
      | refine LeO.ite ?_ ?_
      | refine LeO.bind ?_ (fun _ => ?_)
theorem camshaftlaw09_ShiftTurns.mono : ∀ a0 a1 a2 k, LeO (camshaftlaw09_ShiftTurns.f k a0 a1 a2) (camshaftlaw09_ShiftTurns.f (k + 1) a0 a1 a2) := by
  intro a0 a1 a2 k
  have ih0 := camshaftlaw09_ShiftTurns.mono_l k
  unfold camshaftlaw09_ShiftTurns.f
  repeat' first
      | (with_reducible exact ih0 _ _ _ _ _ _ _ _ _ _ _)
      | (with_reducible exact LeO.refl _)
      | (with_reducible exact LeO.none _)
      | (with_reducible refine LeO.ite ?_ ?_)
      | (with_reducible refine LeO.bind ?_ (fun _ => ?_))
      | exact ih0 _ _ _ _ _ _ _ _ _ _ _
      | exact LeO.none _
      | refine LeO.ite ?_ ?_
      | refine LeO.bind ?_ (fun _ => ?_)
set_option maxHeartbeats 8000000 in
set_option maxRecDepth 100000 in
theorem camshaftlaw09_ShiftTurns.calls (k : Nat) (a0 : Int) (a1 : Int) (a2 : Int) (r : Bool) (w : World) (h : camshaftlaw09_ShiftTurns.f k a0 a1 a2 = some r) :
    Calls Try.prog 5 #[.int .u8 a0, .int .u8 a1, .int .u32 a2] w fun e w' => e = .returned (.bool r) ∧ Below w.heap.size w w' := by
  have hu25 := Try.underlying25
  have HB := Aside0.mk (Below.refl w.heap.size w)
  have H : ((camshaftlaw09_alive.f).bind fun t130 => (if t130 = true then ((shift_Rot.f a0 a2 false).bind fun bt131 => ((shift_Rot.f a1 bt131.1 true).bind fun bt137 => ((shift_Rot.f ((a0 + a1) % 256) a2 true).bind fun bt143 => ((shift_Rot.f ((a0 + 32) % 256) a2 false).bind fun bt149 => (camshaftlaw09_ShiftTurns.l0 k a2 bt131.1 bt137.1 bt143.1 bt149.1 0 0 bt143.2.1 bt143.2.2.1 bt143.2.2.2.1 bt143.2.2.2.2))))) else (some false))) = some r := h
  clear h
  replace H := Option.bind_eq_some_iff.mp H
  obtain ⟨t130, A40, H⟩ := H
  replace H : (if t130 = true then ((shift_Rot.f a0 a2 false).bind fun bt131 => ((shift_Rot.f a1 bt131.1 true).bind fun bt137 => ((shift_Rot.f ((a0 + a1) % 256) a2 true).bind fun bt143 => ((shift_Rot.f ((a0 + 32) % 256) a2 false).bind fun bt149 => (camshaftlaw09_ShiftTurns.l0 k a2 bt131.1 bt137.1 bt143.1 bt149.1 0 0 bt143.2.1 bt143.2.2.1 bt143.2.2.2.1 bt143.2.2.2.2))))) else (some false)) = some r := H
  have A4 := Aside0.mk A40
  clear A40
  by_cases c5 : t130 = true
  · subst c5
    have H1 : ((shift_Rot.f a0 a2 false).bind fun bt131 => ((shift_Rot.f a1 bt131.1 true).bind fun bt137 => ((shift_Rot.f ((a0 + a1) % 256) a2 true).bind fun bt143 => ((shift_Rot.f ((a0 + 32) % 256) a2 false).bind fun bt149 => (camshaftlaw09_ShiftTurns.l0 k a2 bt131.1 bt137.1 bt143.1 bt149.1 0 0 bt143.2.1 bt143.2.2.1 bt143.2.2.2.1 bt143.2.2.2.2))))) = some r := by rw [if_pos rfl] at H; exact H
    clear H
    have H := H1
    clear H1
    replace H := Option.bind_eq_some_iff.mp H
    obtain ⟨⟨t131, t132, t133, t134, t135⟩, A60, H⟩ := H
    replace H : ((shift_Rot.f a1 t131 true).bind fun bt137 => ((shift_Rot.f ((a0 + a1) % 256) a2 true).bind fun bt143 => ((shift_Rot.f ((a0 + 32) % 256) a2 false).bind fun bt149 => (camshaftlaw09_ShiftTurns.l0 k a2 t131 bt137.1 bt143.1 bt149.1 0 0 bt143.2.1 bt143.2.2.1 bt143.2.2.2.1 bt143.2.2.2.2)))) = some r := H
    have A6 := Aside0.mk A60
    clear A60
    replace H := Option.bind_eq_some_iff.mp H
    obtain ⟨⟨t137, t138, t139, t140, t141⟩, A70, H⟩ := H
    replace H : ((shift_Rot.f ((a0 + a1) % 256) a2 true).bind fun bt143 => ((shift_Rot.f ((a0 + 32) % 256) a2 false).bind fun bt149 => (camshaftlaw09_ShiftTurns.l0 k a2 t131 t137 bt143.1 bt149.1 0 0 bt143.2.1 bt143.2.2.1 bt143.2.2.2.1 bt143.2.2.2.2))) = some r := H
    have A7 := Aside0.mk A70
    clear A70
    replace H := Option.bind_eq_some_iff.mp H
    obtain ⟨⟨t143, t144, t145, t146, t147⟩, A80, H⟩ := H
    replace H : ((shift_Rot.f ((a0 + 32) % 256) a2 false).bind fun bt149 => (camshaftlaw09_ShiftTurns.l0 k a2 t131 t137 t143 bt149.1 0 0 t144 t145 t146 t147)) = some r := H
    have A8 := Aside0.mk A80
    clear A80
    replace H := Option.bind_eq_some_iff.mp H
    obtain ⟨⟨t149, t150, t151, t152, t153⟩, A90, H⟩ := H
    replace H : (camshaftlaw09_ShiftTurns.l0 k a2 t131 t137 t143 t149 0 0 t144 t145 t146 t147) = some r := H
    have A9 := Aside0.mk A90
    clear A90
    have H' := Aside0.mk H
    clear H
    go_enter Try.func5, Try.ntmps5
    go_wp2_with (first | ((with_reducible refine gate_callee (f := 9) rfl ?_); refine goesL_ (some 17) rfl rfl Try.func9 (by kernel_rfl) rfl #[] rfl (by (try simp only [List.map_toArray, List.map_cons, List.map_nil]); first | done | rfl | (simp only [List.length_drop, List.length_take]; rfl)) ?_; (with_reducible refine (camshaftlaw09_alive.calls  true _ A4.out).mono ?_); rintro e w10 ⟨rfl, hb⟩; refine ⟨_, rfl, ?_⟩; have n0_ := Aside0.mk (below_step (by repeat (first | (with_reducible first | exact HB.out | apply below_alloc | apply pw_below_drewN | apply below_drew1) | exact HB.out)) hb); clear HB; have HB := n0_; clear n0_; (try clear hb); (try clear hb2); (try clear hk); (try clear hi)) | ((with_reducible refine gate_callee (f := 12) rfl ?_); refine goesL_ (some 22) rfl rfl Try.func12 (by kernel_rfl) rfl #[.int .u8 a0, .int .u32 a2, .bool false] rfl (by (try simp only [List.map_toArray, List.map_cons, List.map_nil]); first | done | rfl | (simp only [List.length_drop, List.length_take]; rfl)) ?_; (with_reducible refine (shift_Rot.calls a0 a2 false t131 t132 t133 t134 t135 _ A6.out).mono ?_); rintro e w11 ⟨rfl, hb⟩; refine ⟨_, rfl, ?_⟩; have n0_ := Aside0.mk (below_step (by repeat (first | (with_reducible first | exact HB.out | apply below_alloc | apply pw_below_drewN | apply below_drew1) | exact HB.out)) hb); clear HB; have HB := n0_; clear n0_; (try clear hb); (try clear hb2); (try clear hk); (try clear hi)) | ((with_reducible refine gate_dst (N := 8) rfl ?_); refine box_event ?hg (N := 8) ?hd (cs := #[.bool false, .bool false, .bool false, .bool false]) (t := 25) ?hr ?_; (case hd => rfl); (case hg => rfl); (case hr => first | (go_simp; done) | (go_simp; rfl)); intro gb136 hg w12 hbox hb; have n0_ := Aside0.mk (below_step (by repeat (first | (with_reducible first | exact HB.out | apply below_alloc | apply pw_below_drewN | apply below_drew1) | exact HB.out)) hb); have n1_ := Aside0.mk (hbox); have n2_ := Aside0.mk ((by rw [hg]; exact (below_size (by repeat (first | (with_reducible first | exact HB.out | apply below_alloc | apply pw_below_drewN | apply below_drew1) | exact HB.out))) : w.heap.size ≤ gb136)); have n3_ := Aside0.mk ((by rw [hg]; exact (below_size (by repeat (first | (with_reducible first | exact HB.out | apply below_alloc | apply pw_below_drewN | apply below_drew1) | exact HB.out))) : w.heap.size ≤ gb136)); clear HB; have HB := n0_; have BK136 := n1_; have GW136 := n2_; have GE136 := n3_; clear n0_ n1_ n2_ n3_; clear hb hbox hg; have hcz13_0 : w12.cell? ⟨gb136, 0, none⟩ = some (.bool false) := (blk_cell BK136.out 0).trans rfl; have hcz13_1 : w12.cell? ⟨gb136, 1, none⟩ = some (.bool false) := (blk_cell BK136.out 1).trans rfl; have hcz13_2 : w12.cell? ⟨gb136, 2, none⟩ = some (.bool false) := (blk_cell BK136.out 2).trans rfl; have hcz13_3 : w12.cell? ⟨gb136, 3, none⟩ = some (.bool false) := (blk_cell BK136.out 3).trans rfl; have hfz13_0 := blk_frozen BK136.out 0; have hfz13_1 := blk_frozen BK136.out 1; have hfz13_2 := blk_frozen BK136.out 2; have hfz13_3 := blk_frozen BK136.out 3) | ((with_reducible refine gate_callee (f := 12) rfl ?_); refine goesL_ (some 28) rfl rfl Try.func12 (by kernel_rfl) rfl #[.int .u8 a1, .int .u32 t131, .bool true] rfl (by (try simp only [List.map_toArray, List.map_cons, List.map_nil]); first | done | rfl | (simp only [List.length_drop, List.length_take]; rfl)) ?_; (with_reducible refine (shift_Rot.calls a1 t131 true t137 t138 t139 t140 t141 _ A7.out).mono ?_); rintro e w14 ⟨rfl, hb⟩; refine ⟨_, rfl, ?_⟩; have n0_ := Aside0.mk (blk_below (g := gb136) (o := .cells #[.bool t132, .bool t133, .bool t134, .bool t135] 25 (0, 0)) (by (with_reducible repeat (first | refine blk_drewN ?_ _ | refine blk_drew ?_ | refine blk_alloc ?_ _)); refine blk_put (cs := #[.bool t132, .bool t133, .bool t134, .bool false]) ?_ 3 _ rfl; (with_reducible repeat (first | refine blk_drewN ?_ _ | refine blk_drew ?_ | refine blk_alloc ?_ _)); refine blk_put (cs := #[.bool t132, .bool t133, .bool false, .bool false]) ?_ 2 _ rfl; (with_reducible repeat (first | refine blk_drewN ?_ _ | refine blk_drew ?_ | refine blk_alloc ?_ _)); refine blk_put (cs := #[.bool t132, .bool false, .bool false, .bool false]) ?_ 1 _ rfl; (with_reducible repeat (first | refine blk_drewN ?_ _ | refine blk_drew ?_ | refine blk_alloc ?_ _)); refine blk_put (cs := #[.bool false, .bool false, .bool false, .bool false]) ?_ 0 _ rfl; (with_reducible repeat (first | refine blk_drewN ?_ _ | refine blk_drew ?_ | refine blk_alloc ?_ _)); exact BK136.out) hb); have n1_ := Aside0.mk (below_step (by repeat (first | (with_reducible first | exact HB.out | apply below_alloc | apply pw_below_drewN | apply below_drew1 | refine below_set ?_ GE136.out) | exact HB.out)) hb); clear BK136; clear HB; have BK136 := n0_; have HB := n1_; clear n0_ n1_; (try clear hb); (try clear hb2); (try clear hk); (try clear hi)) | ((with_reducible refine gate_dst (N := 10) rfl ?_); refine box_event ?hg (N := 10) ?hd (cs := #[.bool false, .bool false, .bool false, .bool false]) (t := 25) ?hr ?_; (case hd => rfl); (case hg => rfl); (case hr => first | (go_simp; done) | (go_simp; rfl)); intro gb142 hg w15 hbox hb; have n0_ := Aside0.mk (blk_below (g := gb136) (o := .cells #[.bool t132, .bool t133, .bool t134, .bool t135] 25 (0, 0)) (by (with_reducible repeat (first | refine blk_drewN ?_ _ | refine blk_drew ?_ | refine blk_alloc ?_ _)); exact BK136.out) hb); have n1_ := Aside0.mk (below_step (by repeat (first | (with_reducible first | exact HB.out | apply below_alloc | apply pw_below_drewN | apply below_drew1 | refine below_set ?_ GE136.out) | exact HB.out)) hb); have n2_ := Aside0.mk (hbox); have n3_ := Aside0.mk ((by rw [hg]; exact (below_size (by repeat (first | (with_reducible first | exact HB.out | apply below_alloc | apply pw_below_drewN | apply below_drew1 | refine below_set ?_ GE136.out) | exact HB.out))) : w.heap.size ≤ gb142)); have n4_ := Aside0.mk ((by rw [hg]; exact (below_size (by repeat (first | (with_reducible first | exact HB.out | apply below_alloc | apply pw_below_drewN | apply below_drew1 | refine below_set ?_ GE136.out) | exact HB.out))) : w.heap.size ≤ gb142)); have n5_ := Aside0.mk ((by rw [hg]; exact Nat.ne_of_lt (blk_lt (g := gb136) (o := .cells #[.bool t132, .bool t133, .bool t134, .bool t135] 25 (0, 0)) (by (with_reducible repeat (first | refine blk_drewN ?_ _ | refine blk_drew ?_ | refine blk_alloc ?_ _)); exact BK136.out)) : gb136 ≠ gb142)); have n6_ := Aside0.mk ((by rw [hg]; exact Nat.ne_of_gt (blk_lt (g := gb136) (o := .cells #[.bool t132, .bool t133, .bool t134, .bool t135] 25 (0, 0)) (by (with_reducible repeat (first | refine blk_drewN ?_ _ | refine blk_drew ?_ | refine blk_alloc ?_ _)); exact BK136.out)) : gb142 ≠ gb136)); clear BK136; clear HB; have BK136 := n0_; have HB := n1_; have BK142 := n2_; have GW142 := n3_; have GE142 := n4_; have NB136_142 := n5_; have NB142_136 := n6_; clear n0_ n1_ n2_ n3_ n4_ n5_ n6_; clear hb hbox hg; have hnb16 := NB142_136.out; have hnc16 := NB136_142.out; have hcz17_0 : w15.cell? ⟨gb142, 0, none⟩ = some (.bool false) := (blk_cell BK142.out 0).trans rfl; have hcz17_1 : w15.cell? ⟨gb142, 1, none⟩ = some (.bool false) := (blk_cell BK142.out 1).trans rfl; have hcz17_2 : w15.cell? ⟨gb142, 2, none⟩ = some (.bool false) := (blk_cell BK142.out 2).trans rfl; have hcz17_3 : w15.cell? ⟨gb142, 3, none⟩ = some (.bool false) := (blk_cell BK142.out 3).trans rfl; have hfz17_0 := blk_frozen BK142.out 0; have hfz17_1 := blk_frozen BK142.out 1; have hfz17_2 := blk_frozen BK142.out 2; have hfz17_3 := blk_frozen BK142.out 3) | ((with_reducible refine gate_callee (f := 12) rfl ?_); refine goesL_ (some 36) rfl rfl Try.func12 (by kernel_rfl) rfl #[.int .u8 ((a0 + a1) % 256), .int .u32 a2, .bool true] rfl (by (try simp only [List.map_toArray, List.map_cons, List.map_nil]); first | done | rfl | (simp only [List.length_drop, List.length_take]; rfl)) ?_; (with_reducible refine (shift_Rot.calls ((a0 + a1) % 256) a2 true t143 t144 t145 t146 t147 _ A8.out).mono ?_); rintro e w18 ⟨rfl, hb⟩; refine ⟨_, rfl, ?_⟩; have n0_ := Aside0.mk (blk_below (g := gb136) (o := .cells #[.bool t132, .bool t133, .bool t134, .bool t135] 25 (0, 0)) (by (with_reducible repeat (first | refine blk_drewN ?_ _ | refine blk_drew ?_ | refine blk_alloc ?_ _)); refine blk_far ?_ NB136_142.out _; (with_reducible repeat (first | refine blk_drewN ?_ _ | refine blk_drew ?_ | refine blk_alloc ?_ _)); refine blk_far ?_ NB136_142.out _; (with_reducible repeat (first | refine blk_drewN ?_ _ | refine blk_drew ?_ | refine blk_alloc ?_ _)); refine blk_far ?_ NB136_142.out _; (with_reducible repeat (first | refine blk_drewN ?_ _ | refine blk_drew ?_ | refine blk_alloc ?_ _)); refine blk_far ?_ NB136_142.out _; (with_reducible repeat (first | refine blk_drewN ?_ _ | refine blk_drew ?_ | refine blk_alloc ?_ _)); exact BK136.out) hb); have n1_ := Aside0.mk (blk_below (g := gb142) (o := .cells #[.bool t138, .bool t139, .bool t140, .bool t141] 25 (0, 0)) (by (with_reducible repeat (first | refine blk_drewN ?_ _ | refine blk_drew ?_ | refine blk_alloc ?_ _)); refine blk_put (cs := #[.bool t138, .bool t139, .bool t140, .bool false]) ?_ 3 _ rfl; (with_reducible repeat (first | refine blk_drewN ?_ _ | refine blk_drew ?_ | refine blk_alloc ?_ _)); refine blk_put (cs := #[.bool t138, .bool t139, .bool false, .bool false]) ?_ 2 _ rfl; (with_reducible repeat (first | refine blk_drewN ?_ _ | refine blk_drew ?_ | refine blk_alloc ?_ _)); refine blk_put (cs := #[.bool t138, .bool false, .bool false, .bool false]) ?_ 1 _ rfl; (with_reducible repeat (first | refine blk_drewN ?_ _ | refine blk_drew ?_ | refine blk_alloc ?_ _)); refine blk_put (cs := #[.bool false, .bool false, .bool false, .bool false]) ?_ 0 _ rfl; (with_reducible repeat (first | refine blk_drewN ?_ _ | refine blk_drew ?_ | refine blk_alloc ?_ _)); exact BK142.out) hb); have n2_ := Aside0.mk (below_step (by repeat (first | (with_reducible first | exact HB.out | apply below_alloc | apply pw_below_drewN | apply below_drew1 | refine below_set ?_ GE136.out | refine below_set ?_ GE142.out) | exact HB.out)) hb); clear BK136; clear BK142; clear HB; have BK136 := n0_; have BK142 := n1_; have HB := n2_; clear n0_ n1_ n2_; (try clear hb); (try clear hb2); (try clear hk); (try clear hi)) | ((with_reducible refine gate_dst (N := 12) rfl ?_); refine box_event ?hg (N := 12) ?hd (cs := #[.bool false, .bool false, .bool false, .bool false]) (t := 25) ?hr ?_; (case hd => rfl); (case hg => rfl); (case hr => first | (go_simp; done) | (go_simp; rfl)); intro gb148 hg w19 hbox hb; have n0_ := Aside0.mk (blk_below (g := gb136) (o := .cells #[.bool t132, .bool t133, .bool t134, .bool t135] 25 (0, 0)) (by (with_reducible repeat (first | refine blk_drewN ?_ _ | refine blk_drew ?_ | refine blk_alloc ?_ _)); exact BK136.out) hb); have n1_ := Aside0.mk (blk_below (g := gb142) (o := .cells #[.bool t138, .bool t139, .bool t140, .bool t141] 25 (0, 0)) (by (with_reducible repeat (first | refine blk_drewN ?_ _ | refine blk_drew ?_ | refine blk_alloc ?_ _)); exact BK142.out) hb); have n2_ := Aside0.mk (below_step (by repeat (first | (with_reducible first | exact HB.out | apply below_alloc | apply pw_below_drewN | apply below_drew1 | refine below_set ?_ GE136.out | refine below_set ?_ GE142.out) | exact HB.out)) hb); have n3_ := Aside0.mk (hbox); have n4_ := Aside0.mk ((by rw [hg]; exact (below_size (by repeat (first | (with_reducible first | exact HB.out | apply below_alloc | apply pw_below_drewN | apply below_drew1 | refine below_set ?_ GE136.out | refine below_set ?_ GE142.out) | exact HB.out))) : w.heap.size ≤ gb148)); have n5_ := Aside0.mk ((by rw [hg]; exact (below_size (by repeat (first | (with_reducible first | exact HB.out | apply below_alloc | apply pw_below_drewN | apply below_drew1 | refine below_set ?_ GE136.out | refine below_set ?_ GE142.out) | exact HB.out))) : w.heap.size ≤ gb148)); have n6_ := Aside0.mk ((by rw [hg]; exact Nat.ne_of_lt (blk_lt (g := gb136) (o := .cells #[.bool t132, .bool t133, .bool t134, .bool t135] 25 (0, 0)) (by (with_reducible repeat (first | refine blk_drewN ?_ _ | refine blk_drew ?_ | refine blk_alloc ?_ _)); exact BK136.out)) : gb136 ≠ gb148)); have n7_ := Aside0.mk ((by rw [hg]; exact Nat.ne_of_gt (blk_lt (g := gb136) (o := .cells #[.bool t132, .bool t133, .bool t134, .bool t135] 25 (0, 0)) (by (with_reducible repeat (first | refine blk_drewN ?_ _ | refine blk_drew ?_ | refine blk_alloc ?_ _)); exact BK136.out)) : gb148 ≠ gb136)); have n8_ := Aside0.mk ((by rw [hg]; exact Nat.ne_of_lt (blk_lt (g := gb142) (o := .cells #[.bool t138, .bool t139, .bool t140, .bool t141] 25 (0, 0)) (by (with_reducible repeat (first | refine blk_drewN ?_ _ | refine blk_drew ?_ | refine blk_alloc ?_ _)); exact BK142.out)) : gb142 ≠ gb148)); have n9_ := Aside0.mk ((by rw [hg]; exact Nat.ne_of_gt (blk_lt (g := gb142) (o := .cells #[.bool t138, .bool t139, .bool t140, .bool t141] 25 (0, 0)) (by (with_reducible repeat (first | refine blk_drewN ?_ _ | refine blk_drew ?_ | refine blk_alloc ?_ _)); exact BK142.out)) : gb148 ≠ gb142)); clear BK136; clear BK142; clear HB; have BK136 := n0_; have BK142 := n1_; have HB := n2_; have BK148 := n3_; have GW148 := n4_; have GE148 := n5_; have NB136_148 := n6_; have NB148_136 := n7_; have NB142_148 := n8_; have NB148_142 := n9_; clear n0_ n1_ n2_ n3_ n4_ n5_ n6_ n7_ n8_ n9_; clear hb hbox hg; have hnb20 := NB148_136.out; have hnc20 := NB136_148.out; have hnb21 := NB148_142.out; have hnc21 := NB142_148.out; have hcz22_0 : w19.cell? ⟨gb148, 0, none⟩ = some (.bool false) := (blk_cell BK148.out 0).trans rfl; have hcz22_1 : w19.cell? ⟨gb148, 1, none⟩ = some (.bool false) := (blk_cell BK148.out 1).trans rfl; have hcz22_2 : w19.cell? ⟨gb148, 2, none⟩ = some (.bool false) := (blk_cell BK148.out 2).trans rfl; have hcz22_3 : w19.cell? ⟨gb148, 3, none⟩ = some (.bool false) := (blk_cell BK148.out 3).trans rfl; have hfz22_0 := blk_frozen BK148.out 0; have hfz22_1 := blk_frozen BK148.out 1; have hfz22_2 := blk_frozen BK148.out 2; have hfz22_3 := blk_frozen BK148.out 3) | ((with_reducible refine gate_callee (f := 12) rfl ?_); refine goesL_ (some 43) rfl rfl Try.func12 (by kernel_rfl) rfl #[.int .u8 ((a0 + 32) % 256), .int .u32 a2, .bool false] rfl (by (try simp only [List.map_toArray, List.map_cons, List.map_nil]); first | done | rfl | (simp only [List.length_drop, List.length_take]; rfl)) ?_; (with_reducible refine (shift_Rot.calls ((a0 + 32) % 256) a2 false t149 t150 t151 t152 t153 _ A9.out).mono ?_); rintro e w23 ⟨rfl, hb⟩; refine ⟨_, rfl, ?_⟩; have n0_ := Aside0.mk (blk_below (g := gb136) (o := .cells #[.bool t132, .bool t133, .bool t134, .bool t135] 25 (0, 0)) (by (with_reducible repeat (first | refine blk_drewN ?_ _ | refine blk_drew ?_ | refine blk_alloc ?_ _)); refine blk_far ?_ NB136_148.out _; (with_reducible repeat (first | refine blk_drewN ?_ _ | refine blk_drew ?_ | refine blk_alloc ?_ _)); refine blk_far ?_ NB136_148.out _; (with_reducible repeat (first | refine blk_drewN ?_ _ | refine blk_drew ?_ | refine blk_alloc ?_ _)); refine blk_far ?_ NB136_148.out _; (with_reducible repeat (first | refine blk_drewN ?_ _ | refine blk_drew ?_ | refine blk_alloc ?_ _)); refine blk_far ?_ NB136_148.out _; (with_reducible repeat (first | refine blk_drewN ?_ _ | refine blk_drew ?_ | refine blk_alloc ?_ _)); exact BK136.out) hb); have n1_ := Aside0.mk (blk_below (g := gb142) (o := .cells #[.bool t138, .bool t139, .bool t140, .bool t141] 25 (0, 0)) (by (with_reducible repeat (first | refine blk_drewN ?_ _ | refine blk_drew ?_ | refine blk_alloc ?_ _)); refine blk_far ?_ NB142_148.out _; (with_reducible repeat (first | refine blk_drewN ?_ _ | refine blk_drew ?_ | refine blk_alloc ?_ _)); refine blk_far ?_ NB142_148.out _; (with_reducible repeat (first | refine blk_drewN ?_ _ | refine blk_drew ?_ | refine blk_alloc ?_ _)); refine blk_far ?_ NB142_148.out _; (with_reducible repeat (first | refine blk_drewN ?_ _ | refine blk_drew ?_ | refine blk_alloc ?_ _)); refine blk_far ?_ NB142_148.out _; (with_reducible repeat (first | refine blk_drewN ?_ _ | refine blk_drew ?_ | refine blk_alloc ?_ _)); exact BK142.out) hb); have n2_ := Aside0.mk (blk_below (g := gb148) (o := .cells #[.bool t144, .bool t145, .bool t146, .bool t147] 25 (0, 0)) (by (with_reducible repeat (first | refine blk_drewN ?_ _ | refine blk_drew ?_ | refine blk_alloc ?_ _)); refine blk_put (cs := #[.bool t144, .bool t145, .bool t146, .bool false]) ?_ 3 _ rfl; (with_reducible repeat (first | refine blk_drewN ?_ _ | refine blk_drew ?_ | refine blk_alloc ?_ _)); refine blk_put (cs := #[.bool t144, .bool t145, .bool false, .bool false]) ?_ 2 _ rfl; (with_reducible repeat (first | refine blk_drewN ?_ _ | refine blk_drew ?_ | refine blk_alloc ?_ _)); refine blk_put (cs := #[.bool t144, .bool false, .bool false, .bool false]) ?_ 1 _ rfl; (with_reducible repeat (first | refine blk_drewN ?_ _ | refine blk_drew ?_ | refine blk_alloc ?_ _)); refine blk_put (cs := #[.bool false, .bool false, .bool false, .bool false]) ?_ 0 _ rfl; (with_reducible repeat (first | refine blk_drewN ?_ _ | refine blk_drew ?_ | refine blk_alloc ?_ _)); exact BK148.out) hb); have n3_ := Aside0.mk (below_step (by repeat (first | (with_reducible first | exact HB.out | apply below_alloc | apply pw_below_drewN | apply below_drew1 | refine below_set ?_ GE136.out | refine below_set ?_ GE142.out | refine below_set ?_ GE148.out) | exact HB.out)) hb); clear BK136; clear BK142; clear BK148; clear HB; have BK136 := n0_; have BK142 := n1_; have BK148 := n2_; have HB := n3_; clear n0_ n1_ n2_ n3_; (try clear hb); (try clear hb2); (try clear hk); (try clear hi)) | ((with_reducible refine gate_dst (N := 14) rfl ?_); refine box_event ?hg (N := 14) ?hd (cs := #[.bool false, .bool false, .bool false, .bool false]) (t := 25) ?hr ?_; (case hd => rfl); (case hg => rfl); (case hr => first | (go_simp; done) | (go_simp; rfl)); intro gb154 hg w24 hbox hb; have n0_ := Aside0.mk (blk_below (g := gb136) (o := .cells #[.bool t132, .bool t133, .bool t134, .bool t135] 25 (0, 0)) (by (with_reducible repeat (first | refine blk_drewN ?_ _ | refine blk_drew ?_ | refine blk_alloc ?_ _)); exact BK136.out) hb); have n1_ := Aside0.mk (blk_below (g := gb142) (o := .cells #[.bool t138, .bool t139, .bool t140, .bool t141] 25 (0, 0)) (by (with_reducible repeat (first | refine blk_drewN ?_ _ | refine blk_drew ?_ | refine blk_alloc ?_ _)); exact BK142.out) hb); have n2_ := Aside0.mk (blk_below (g := gb148) (o := .cells #[.bool t144, .bool t145, .bool t146, .bool t147] 25 (0, 0)) (by (with_reducible repeat (first | refine blk_drewN ?_ _ | refine blk_drew ?_ | refine blk_alloc ?_ _)); exact BK148.out) hb); have n3_ := Aside0.mk (below_step (by repeat (first | (with_reducible first | exact HB.out | apply below_alloc | apply pw_below_drewN | apply below_drew1 | refine below_set ?_ GE136.out | refine below_set ?_ GE142.out | refine below_set ?_ GE148.out) | exact HB.out)) hb); have n4_ := Aside0.mk (hbox); have n5_ := Aside0.mk ((by rw [hg]; exact (below_size (by repeat (first | (with_reducible first | exact HB.out | apply below_alloc | apply pw_below_drewN | apply below_drew1 | refine below_set ?_ GE136.out | refine below_set ?_ GE142.out | refine below_set ?_ GE148.out) | exact HB.out))) : w.heap.size ≤ gb154)); have n6_ := Aside0.mk ((by rw [hg]; exact (below_size (by repeat (first | (with_reducible first | exact HB.out | apply below_alloc | apply pw_below_drewN | apply below_drew1 | refine below_set ?_ GE136.out | refine below_set ?_ GE142.out | refine below_set ?_ GE148.out) | exact HB.out))) : w.heap.size ≤ gb154)); have n7_ := Aside0.mk ((by rw [hg]; exact Nat.ne_of_lt (blk_lt (g := gb136) (o := .cells #[.bool t132, .bool t133, .bool t134, .bool t135] 25 (0, 0)) (by (with_reducible repeat (first | refine blk_drewN ?_ _ | refine blk_drew ?_ | refine blk_alloc ?_ _)); exact BK136.out)) : gb136 ≠ gb154)); have n8_ := Aside0.mk ((by rw [hg]; exact Nat.ne_of_gt (blk_lt (g := gb136) (o := .cells #[.bool t132, .bool t133, .bool t134, .bool t135] 25 (0, 0)) (by (with_reducible repeat (first | refine blk_drewN ?_ _ | refine blk_drew ?_ | refine blk_alloc ?_ _)); exact BK136.out)) : gb154 ≠ gb136)); have n9_ := Aside0.mk ((by rw [hg]; exact Nat.ne_of_lt (blk_lt (g := gb142) (o := .cells #[.bool t138, .bool t139, .bool t140, .bool t141] 25 (0, 0)) (by (with_reducible repeat (first | refine blk_drewN ?_ _ | refine blk_drew ?_ | refine blk_alloc ?_ _)); exact BK142.out)) : gb142 ≠ gb154)); have n10_ := Aside0.mk ((by rw [hg]; exact Nat.ne_of_gt (blk_lt (g := gb142) (o := .cells #[.bool t138, .bool t139, .bool t140, .bool t141] 25 (0, 0)) (by (with_reducible repeat (first | refine blk_drewN ?_ _ | refine blk_drew ?_ | refine blk_alloc ?_ _)); exact BK142.out)) : gb154 ≠ gb142)); have n11_ := Aside0.mk ((by rw [hg]; exact Nat.ne_of_lt (blk_lt (g := gb148) (o := .cells #[.bool t144, .bool t145, .bool t146, .bool t147] 25 (0, 0)) (by (with_reducible repeat (first | refine blk_drewN ?_ _ | refine blk_drew ?_ | refine blk_alloc ?_ _)); exact BK148.out)) : gb148 ≠ gb154)); have n12_ := Aside0.mk ((by rw [hg]; exact Nat.ne_of_gt (blk_lt (g := gb148) (o := .cells #[.bool t144, .bool t145, .bool t146, .bool t147] 25 (0, 0)) (by (with_reducible repeat (first | refine blk_drewN ?_ _ | refine blk_drew ?_ | refine blk_alloc ?_ _)); exact BK148.out)) : gb154 ≠ gb148)); clear BK136; clear BK142; clear BK148; clear HB; have BK136 := n0_; have BK142 := n1_; have BK148 := n2_; have HB := n3_; have BK154 := n4_; have GW154 := n5_; have GE154 := n6_; have NB136_154 := n7_; have NB154_136 := n8_; have NB142_154 := n9_; have NB154_142 := n10_; have NB148_154 := n11_; have NB154_148 := n12_; clear n0_ n1_ n2_ n3_ n4_ n5_ n6_ n7_ n8_ n9_ n10_ n11_ n12_; clear hb hbox hg; have hnb25 := NB154_136.out; have hnc25 := NB136_154.out; have hnb26 := NB154_142.out; have hnc26 := NB142_154.out; have hnb27 := NB154_148.out; have hnc27 := NB148_154.out; have hcz28_0 : w24.cell? ⟨gb154, 0, none⟩ = some (.bool false) := (blk_cell BK154.out 0).trans rfl; have hcz28_1 : w24.cell? ⟨gb154, 1, none⟩ = some (.bool false) := (blk_cell BK154.out 1).trans rfl; have hcz28_2 : w24.cell? ⟨gb154, 2, none⟩ = some (.bool false) := (blk_cell BK154.out 2).trans rfl; have hcz28_3 : w24.cell? ⟨gb154, 3, none⟩ = some (.bool false) := (blk_cell BK154.out 3).trans rfl; have hfz28_0 := blk_frozen BK154.out 0; have hfz28_1 := blk_frozen BK154.out 1; have hfz28_2 := blk_frozen BK154.out 2; have hfz28_3 := blk_frozen BK154.out 3))
    go_loopg [15, 16] k (fun kq v15 v16 w' => ∃ (x15_1 : Int) (x16_1 : Int), v15 = .int .i64 x15_1 ∧ v16 = .int .i64 x16_1 ∧ Aside0 (camshaftlaw09_ShiftTurns.l0 kq a2 t131 t137 t143 t149 x15_1 x16_1 t144 t145 t146 t147 = some r) ∧ Aside0 (kq ≤ k) ∧ Aside0 (w'.heap[gb136]? = some (.cells #[.bool t132, .bool t133, .bool t134, .bool t135] 25 (0, 0))) ∧ Aside0 (w'.heap[gb142]? = some (.cells #[.bool t138, .bool t139, .bool t140, .bool t141] 25 (0, 0))) ∧ Aside0 (w'.heap[gb148]? = some (.cells #[.bool t144, .bool t145, .bool t146, .bool t147] 25 (0, 0))) ∧ Aside0 (w'.heap[gb154]? = some (.cells #[.bool t150, .bool t151, .bool t152, .bool t153] 25 (0, 0))) ∧ Aside0 (Below w.heap.size w w'))
    case atStart => exact ⟨(0), (0), (by first | rfl | (simp; done) | (simp [*]; done)), (by first | rfl | (simp; done) | (simp [*]; done)), H', ⟨Nat.le_refl _⟩, ⟨by (with_reducible repeat (first | refine blk_drewN ?_ _ | refine blk_drew ?_ | refine blk_alloc ?_ _)); refine blk_far ?_ NB136_154.out _; (with_reducible repeat (first | refine blk_drewN ?_ _ | refine blk_drew ?_ | refine blk_alloc ?_ _)); refine blk_far ?_ NB136_154.out _; (with_reducible repeat (first | refine blk_drewN ?_ _ | refine blk_drew ?_ | refine blk_alloc ?_ _)); refine blk_far ?_ NB136_154.out _; (with_reducible repeat (first | refine blk_drewN ?_ _ | refine blk_drew ?_ | refine blk_alloc ?_ _)); refine blk_far ?_ NB136_154.out _; (with_reducible repeat (first | refine blk_drewN ?_ _ | refine blk_drew ?_ | refine blk_alloc ?_ _)); exact BK136.out⟩, ⟨by (with_reducible repeat (first | refine blk_drewN ?_ _ | refine blk_drew ?_ | refine blk_alloc ?_ _)); refine blk_far ?_ NB142_154.out _; (with_reducible repeat (first | refine blk_drewN ?_ _ | refine blk_drew ?_ | refine blk_alloc ?_ _)); refine blk_far ?_ NB142_154.out _; (with_reducible repeat (first | refine blk_drewN ?_ _ | refine blk_drew ?_ | refine blk_alloc ?_ _)); refine blk_far ?_ NB142_154.out _; (with_reducible repeat (first | refine blk_drewN ?_ _ | refine blk_drew ?_ | refine blk_alloc ?_ _)); refine blk_far ?_ NB142_154.out _; (with_reducible repeat (first | refine blk_drewN ?_ _ | refine blk_drew ?_ | refine blk_alloc ?_ _)); exact BK142.out⟩, ⟨by (with_reducible repeat (first | refine blk_drewN ?_ _ | refine blk_drew ?_ | refine blk_alloc ?_ _)); refine blk_far ?_ NB148_154.out _; (with_reducible repeat (first | refine blk_drewN ?_ _ | refine blk_drew ?_ | refine blk_alloc ?_ _)); refine blk_far ?_ NB148_154.out _; (with_reducible repeat (first | refine blk_drewN ?_ _ | refine blk_drew ?_ | refine blk_alloc ?_ _)); refine blk_far ?_ NB148_154.out _; (with_reducible repeat (first | refine blk_drewN ?_ _ | refine blk_drew ?_ | refine blk_alloc ?_ _)); refine blk_far ?_ NB148_154.out _; (with_reducible repeat (first | refine blk_drewN ?_ _ | refine blk_drew ?_ | refine blk_alloc ?_ _)); exact BK148.out⟩, ⟨by (with_reducible repeat (first | refine blk_drewN ?_ _ | refine blk_drew ?_ | refine blk_alloc ?_ _)); refine blk_put (cs := #[.bool t150, .bool t151, .bool t152, .bool false]) ?_ 3 _ rfl; (with_reducible repeat (first | refine blk_drewN ?_ _ | refine blk_drew ?_ | refine blk_alloc ?_ _)); refine blk_put (cs := #[.bool t150, .bool t151, .bool false, .bool false]) ?_ 2 _ rfl; (with_reducible repeat (first | refine blk_drewN ?_ _ | refine blk_drew ?_ | refine blk_alloc ?_ _)); refine blk_put (cs := #[.bool t150, .bool false, .bool false, .bool false]) ?_ 1 _ rfl; (with_reducible repeat (first | refine blk_drewN ?_ _ | refine blk_drew ?_ | refine blk_alloc ?_ _)); refine blk_put (cs := #[.bool false, .bool false, .bool false, .bool false]) ?_ 0 _ rfl; (with_reducible repeat (first | refine blk_drewN ?_ _ | refine blk_drew ?_ | refine blk_alloc ?_ _)); exact BK154.out⟩, ⟨by repeat (first | (with_reducible first | exact HB.out | apply below_alloc | apply pw_below_drewN | apply below_drew1 | refine below_set ?_ GE136.out | refine below_set ?_ GE142.out | refine below_set ?_ GE148.out | refine below_set ?_ GE154.out) | exact HB.out)⟩⟩
    case round =>
      clear H'
      try clear c1
      try clear c2
      try clear p2
      try clear c5
      try clear c9
      try clear c12
      try clear c16
      try clear c20
      try clear c21
      try clear c25
      try clear c26
      try clear c27
      try clear hcz13_0
      try clear hcz13_1
      try clear hcz13_2
      try clear hcz13_3
      try clear hcz17_0
      try clear hcz17_1
      try clear hcz17_2
      try clear hcz17_3
      try clear hcz22_0
      try clear hcz22_1
      try clear hcz22_2
      try clear hcz22_3
      try clear hcz28_0
      try clear hcz28_1
      try clear hcz28_2
      try clear hcz28_3
      try clear hfz13_0
      try clear hfz13_1
      try clear hfz13_2
      try clear hfz13_3
      try clear hfz17_0
      try clear hfz17_1
      try clear hfz17_2
      try clear hfz17_3
      try clear hfz22_0
      try clear hfz22_1
      try clear hfz22_2
      try clear hfz22_3
      try clear hfz28_0
      try clear hfz28_1
      try clear hfz28_2
      try clear hfz28_3
      obtain ⟨x15_1, x16_1, rfl, rfl, HA, HK1, BK136, BK142, BK148, BK154, HB⟩ := hrel
      cases gk with
      | zero => exact absurd HA.out (by simp [camshaftlaw09_ShiftTurns.l0])
      | succ k1 =>
        have H := HA.out
        clear HA
        simp only [camshaftlaw09_ShiftTurns.l0] at H
        by_cases c29 : x16_1 < 32
        · rw [if_pos c29] at H
          have c29b0 : decide (x16_1 < 32) = true := decide_eq_true c29
          clear c29
          obtain ⟨ji30, hji30⟩ : ∃ j_ : Int, (IntKind.u64.wrap (x16_1)) = j_ := ⟨_, rfl⟩
          replace H : (if 0 ≤ (ji30) then (if (Int.tmod (shr .u32 a2 (ji30)) 2) = 1 then (if (Int.tmod (shr .u32 t131 (ji30)) 2) = 1 then (camshaftlaw09_ShiftTurns.l0 k1 a2 t131 t137 t143 t149 (wrap64 ((wrap64 (x15_1 + 1)) - 1)) (wrap64 (x16_1 + 1)) t144 t145 t146 t147) else (camshaftlaw09_ShiftTurns.l0 k1 a2 t131 t137 t143 t149 (wrap64 (x15_1 + 1)) (wrap64 (x16_1 + 1)) t144 t145 t146 t147)) else (if (Int.tmod (shr .u32 t131 (ji30)) 2) = 1 then (camshaftlaw09_ShiftTurns.l0 k1 a2 t131 t137 t143 t149 (wrap64 (x15_1 - 1)) (wrap64 (x16_1 + 1)) t144 t145 t146 t147) else (camshaftlaw09_ShiftTurns.l0 k1 a2 t131 t137 t143 t149 x15_1 (wrap64 (x16_1 + 1)) t144 t145 t146 t147))) else (none)) = some r := by first | (rw [hji30] at H; exact H) | (simp only [hji30] at H ⊢; exact H)
          by_cases c31 : 0 ≤ (ji30)
          · rw [if_pos c31] at H
            have c31b0 := eq_true c31
            have c31b1 : decide (0 ≤ (ji30)) = true := decide_eq_true c31
            clear c31
            obtain ⟨ji32, hji32⟩ : ∃ j_ : Int, (shr .u32 a2 (ji30)) = j_ := ⟨_, rfl⟩
            replace H : (if (Int.tmod (ji32) 2) = 1 then (if (Int.tmod (shr .u32 t131 (ji30)) 2) = 1 then (camshaftlaw09_ShiftTurns.l0 k1 a2 t131 t137 t143 t149 (wrap64 ((wrap64 (x15_1 + 1)) - 1)) (wrap64 (x16_1 + 1)) t144 t145 t146 t147) else (camshaftlaw09_ShiftTurns.l0 k1 a2 t131 t137 t143 t149 (wrap64 (x15_1 + 1)) (wrap64 (x16_1 + 1)) t144 t145 t146 t147)) else (if (Int.tmod (shr .u32 t131 (ji30)) 2) = 1 then (camshaftlaw09_ShiftTurns.l0 k1 a2 t131 t137 t143 t149 (wrap64 (x15_1 - 1)) (wrap64 (x16_1 + 1)) t144 t145 t146 t147) else (camshaftlaw09_ShiftTurns.l0 k1 a2 t131 t137 t143 t149 x15_1 (wrap64 (x16_1 + 1)) t144 t145 t146 t147))) = some r := by first | (rw [hji32] at H; exact H) | (simp only [hji32] at H ⊢; exact H)
            have hji32_ : (a2 / 2 ^ min (ji30).toNat 32) = ji32 := hji32
            have hji32z : (ji30) ≤ 32 → (a2 / 2 ^ (ji30).toNat) = ji32 := shr_small hji32
            by_cases c33 : (Int.tmod (ji32) 2) = 1
            · rw [if_pos c33] at H
              have c33b0 : ((Int.tmod (ji32) 2) == 1) = true := beq_iff_eq.mpr c33
              have c33b1 : ((Int.tmod (ji32) 2) != 1) = false := bne_eq_false_iff_eq.mpr c33
              clear c33
              have c34b0 := eq_true (of_decide_eq_true (by first | (with_reducible assumption) | assumption) : 0 ≤ (ji30))
              obtain ⟨ji35, hji35⟩ : ∃ j_ : Int, (shr .u32 t131 (ji30)) = j_ := ⟨_, rfl⟩
              replace H : (if (Int.tmod (ji35) 2) = 1 then (camshaftlaw09_ShiftTurns.l0 k1 a2 t131 t137 t143 t149 (wrap64 ((wrap64 (x15_1 + 1)) - 1)) (wrap64 (x16_1 + 1)) t144 t145 t146 t147) else (camshaftlaw09_ShiftTurns.l0 k1 a2 t131 t137 t143 t149 (wrap64 (x15_1 + 1)) (wrap64 (x16_1 + 1)) t144 t145 t146 t147)) = some r := by first | (rw [hji35] at H; exact H) | (simp only [hji35] at H ⊢; exact H)
              have hji35_ : (t131 / 2 ^ min (ji30).toNat 32) = ji35 := hji35
              have hji35z : (ji30) ≤ 32 → (t131 / 2 ^ (ji30).toNat) = ji35 := shr_small hji35
              by_cases c36 : (Int.tmod (ji35) 2) = 1
              · rw [if_pos c36] at H
                have c36b0 : ((Int.tmod (ji35) 2) == 1) = true := beq_iff_eq.mpr c36
                have c36b1 : ((Int.tmod (ji35) 2) != 1) = false := bne_eq_false_iff_eq.mpr c36
                clear c36
                have H' := Aside0.mk H
                clear H
                go_wp2
                go_roundg k1
                case measure => have := HK1.out; omega
                case rel => exact ⟨(wrap64 ((wrap64 (x15_1 + 1)) - 1)), (wrap64 (x16_1 + 1)), (by first | rfl | (simp; done) | (simp [*]; done)), (by first | rfl | (simp; done) | (simp [*]; done)), H', ⟨by have := HK1.out; omega⟩, ⟨by (with_reducible repeat (first | refine blk_drewN ?_ _ | refine blk_drew ?_ | refine blk_alloc ?_ _)); exact BK136.out⟩, ⟨by (with_reducible repeat (first | refine blk_drewN ?_ _ | refine blk_drew ?_ | refine blk_alloc ?_ _)); exact BK142.out⟩, ⟨by (with_reducible repeat (first | refine blk_drewN ?_ _ | refine blk_drew ?_ | refine blk_alloc ?_ _)); exact BK148.out⟩, ⟨by (with_reducible repeat (first | refine blk_drewN ?_ _ | refine blk_drew ?_ | refine blk_alloc ?_ _)); exact BK154.out⟩, ⟨by repeat (first | (with_reducible first | exact HB.out | apply below_alloc | apply pw_below_drewN | apply below_drew1 | refine below_set ?_ GE136.out | refine below_set ?_ GE142.out | refine below_set ?_ GE148.out | refine below_set ?_ GE154.out) | exact HB.out)⟩⟩
              · rw [if_neg c36] at H
                have c36b0 : ((Int.tmod (ji35) 2) == 1) = false := beq_eq_false_iff_ne.mpr c36
                have c36b1 : ((Int.tmod (ji35) 2) != 1) = true := bne_iff_ne.mpr c36
                have H' := Aside0.mk H
                clear H
                go_wp2
                go_roundg k1
                case measure => have := HK1.out; omega
                case rel => exact ⟨(wrap64 (x15_1 + 1)), (wrap64 (x16_1 + 1)), (by first | rfl | (simp; done) | (simp [*]; done)), (by first | rfl | (simp; done) | (simp [*]; done)), H', ⟨by have := HK1.out; omega⟩, ⟨by (with_reducible repeat (first | refine blk_drewN ?_ _ | refine blk_drew ?_ | refine blk_alloc ?_ _)); exact BK136.out⟩, ⟨by (with_reducible repeat (first | refine blk_drewN ?_ _ | refine blk_drew ?_ | refine blk_alloc ?_ _)); exact BK142.out⟩, ⟨by (with_reducible repeat (first | refine blk_drewN ?_ _ | refine blk_drew ?_ | refine blk_alloc ?_ _)); exact BK148.out⟩, ⟨by (with_reducible repeat (first | refine blk_drewN ?_ _ | refine blk_drew ?_ | refine blk_alloc ?_ _)); exact BK154.out⟩, ⟨by repeat (first | (with_reducible first | exact HB.out | apply below_alloc | apply pw_below_drewN | apply below_drew1 | refine below_set ?_ GE136.out | refine below_set ?_ GE142.out | refine below_set ?_ GE148.out | refine below_set ?_ GE154.out) | exact HB.out)⟩⟩
            · rw [if_neg c33] at H
              have c33b0 : ((Int.tmod (ji32) 2) == 1) = false := beq_eq_false_iff_ne.mpr c33
              have c33b1 : ((Int.tmod (ji32) 2) != 1) = true := bne_iff_ne.mpr c33
              have c37b0 := eq_true (of_decide_eq_true (by first | (with_reducible assumption) | assumption) : 0 ≤ (ji30))
              obtain ⟨ji38, hji38⟩ : ∃ j_ : Int, (shr .u32 t131 (ji30)) = j_ := ⟨_, rfl⟩
              replace H : (if (Int.tmod (ji38) 2) = 1 then (camshaftlaw09_ShiftTurns.l0 k1 a2 t131 t137 t143 t149 (wrap64 (x15_1 - 1)) (wrap64 (x16_1 + 1)) t144 t145 t146 t147) else (camshaftlaw09_ShiftTurns.l0 k1 a2 t131 t137 t143 t149 x15_1 (wrap64 (x16_1 + 1)) t144 t145 t146 t147)) = some r := by first | (rw [hji38] at H; exact H) | (simp only [hji38] at H ⊢; exact H)
              have hji38_ : (t131 / 2 ^ min (ji30).toNat 32) = ji38 := hji38
              have hji38z : (ji30) ≤ 32 → (t131 / 2 ^ (ji30).toNat) = ji38 := shr_small hji38
              by_cases c39 : (Int.tmod (ji38) 2) = 1
              · rw [if_pos c39] at H
                have c39b0 : ((Int.tmod (ji38) 2) == 1) = true := beq_iff_eq.mpr c39
                have c39b1 : ((Int.tmod (ji38) 2) != 1) = false := bne_eq_false_iff_eq.mpr c39
                clear c39
                have H' := Aside0.mk H
                clear H
                go_wp2
                go_roundg k1
                case measure => have := HK1.out; omega
                case rel => exact ⟨(wrap64 (x15_1 - 1)), (wrap64 (x16_1 + 1)), (by first | rfl | (simp; done) | (simp [*]; done)), (by first | rfl | (simp; done) | (simp [*]; done)), H', ⟨by have := HK1.out; omega⟩, ⟨by (with_reducible repeat (first | refine blk_drewN ?_ _ | refine blk_drew ?_ | refine blk_alloc ?_ _)); exact BK136.out⟩, ⟨by (with_reducible repeat (first | refine blk_drewN ?_ _ | refine blk_drew ?_ | refine blk_alloc ?_ _)); exact BK142.out⟩, ⟨by (with_reducible repeat (first | refine blk_drewN ?_ _ | refine blk_drew ?_ | refine blk_alloc ?_ _)); exact BK148.out⟩, ⟨by (with_reducible repeat (first | refine blk_drewN ?_ _ | refine blk_drew ?_ | refine blk_alloc ?_ _)); exact BK154.out⟩, ⟨by repeat (first | (with_reducible first | exact HB.out | apply below_alloc | apply pw_below_drewN | apply below_drew1 | refine below_set ?_ GE136.out | refine below_set ?_ GE142.out | refine below_set ?_ GE148.out | refine below_set ?_ GE154.out) | exact HB.out)⟩⟩
              · rw [if_neg c39] at H
                have c39b0 : ((Int.tmod (ji38) 2) == 1) = false := beq_eq_false_iff_ne.mpr c39
                have c39b1 : ((Int.tmod (ji38) 2) != 1) = true := bne_iff_ne.mpr c39
                have H' := Aside0.mk H
                clear H
                go_wp2
                go_roundg k1
                case measure => have := HK1.out; omega
                case rel => exact ⟨(x15_1), (wrap64 (x16_1 + 1)), (by first | rfl | (simp; done) | (simp [*]; done)), (by first | rfl | (simp; done) | (simp [*]; done)), H', ⟨by have := HK1.out; omega⟩, ⟨by (with_reducible repeat (first | refine blk_drewN ?_ _ | refine blk_drew ?_ | refine blk_alloc ?_ _)); exact BK136.out⟩, ⟨by (with_reducible repeat (first | refine blk_drewN ?_ _ | refine blk_drew ?_ | refine blk_alloc ?_ _)); exact BK142.out⟩, ⟨by (with_reducible repeat (first | refine blk_drewN ?_ _ | refine blk_drew ?_ | refine blk_alloc ?_ _)); exact BK148.out⟩, ⟨by (with_reducible repeat (first | refine blk_drewN ?_ _ | refine blk_drew ?_ | refine blk_alloc ?_ _)); exact BK154.out⟩, ⟨by repeat (first | (with_reducible first | exact HB.out | apply below_alloc | apply pw_below_drewN | apply below_drew1 | refine below_set ?_ GE136.out | refine below_set ?_ GE142.out | refine below_set ?_ GE148.out | refine below_set ?_ GE154.out) | exact HB.out)⟩⟩
          · rw [if_neg c31] at H
            exact absurd H (by simp)
        · rw [if_neg c29] at H
          have c29b0 : decide (x16_1 < 32) = false := decide_eq_false c29
          clear c29
          by_cases c40 : t137 = t143
          · rw [if_pos c40] at H
            have c40b0 : (t137 == t143) = true := beq_iff_eq.mpr c40
            have c40b1 : (t137 != t143) = false := bne_eq_false_iff_eq.mpr c40
            clear c40
            by_cases c41 : t149 = t131
            · rw [if_pos c41] at H
              have c41b0 : (t149 == t131) = true := beq_iff_eq.mpr c41
              have c41b1 : (t149 != t131) = false := bne_eq_false_iff_eq.mpr c41
              clear c41
              by_cases c42 : x15_1 = 0
              · rw [if_pos c42] at H
                have c42b0 : (x15_1 == 0) = true := beq_iff_eq.mpr c42
                have c42b1 : (x15_1 != 0) = false := bne_eq_false_iff_eq.mpr c42
                clear c42
                by_cases c43 : t147 = true
                · subst c43
                  have H1 : (some (!t146)) = some r := by rw [if_pos rfl] at H; exact H
                  clear H
                  have H := H1
                  clear H1
                  obtain rfl := Option.some.inj H
                  have hnb44 := NB148_136.out
                  have hnc44 := NB136_148.out
                  have hnb45 := NB148_142.out
                  have hnc45 := NB142_148.out
                  have hnb46 := NB148_154.out
                  have hnc46 := NB154_148.out
                  have hcz47_0 : wr.cell? ⟨gb148, 0, none⟩ = some (.bool t144) := (blk_cell BK148.out 0).trans rfl
                  have hcz47_1 : wr.cell? ⟨gb148, 1, none⟩ = some (.bool t145) := (blk_cell BK148.out 1).trans rfl
                  have hcz47_2 : wr.cell? ⟨gb148, 2, none⟩ = some (.bool t146) := (blk_cell BK148.out 2).trans rfl
                  have hcz47_3 : wr.cell? ⟨gb148, 3, none⟩ = some (.bool true) := (blk_cell BK148.out 3).trans rfl
                  have hfz47_0 := blk_frozen BK148.out 0
                  have hfz47_1 := blk_frozen BK148.out 1
                  have hfz47_2 := blk_frozen BK148.out 2
                  have hfz47_3 := blk_frozen BK148.out 3
                  go_wp2
                  go_ret
                  exact ⟨by first | rfl | (simp [errW_none, errW_some] <;> rfl) | (simp [*, errW_none, errW_some] <;> rfl), by repeat (first | (with_reducible first | exact HB.out | apply below_alloc | apply pw_below_drewN | apply below_drew1 | refine below_set ?_ GE136.out | refine below_set ?_ GE142.out | refine below_set ?_ GE148.out | refine below_set ?_ GE154.out) | exact HB.out)⟩
                · replace c43 := Bool.eq_false_iff.mpr c43
                  subst c43
                  have H1 : (some false) = some r := by rw [if_neg (show ¬ (false = true) by decide)] at H; exact H
                  clear H
                  have H := H1
                  clear H1
                  obtain rfl := Option.some.inj H
                  have hnb48 := NB148_136.out
                  have hnc48 := NB136_148.out
                  have hnb49 := NB148_142.out
                  have hnc49 := NB142_148.out
                  have hnb50 := NB148_154.out
                  have hnc50 := NB154_148.out
                  have hcz51_0 : wr.cell? ⟨gb148, 0, none⟩ = some (.bool t144) := (blk_cell BK148.out 0).trans rfl
                  have hcz51_1 : wr.cell? ⟨gb148, 1, none⟩ = some (.bool t145) := (blk_cell BK148.out 1).trans rfl
                  have hcz51_2 : wr.cell? ⟨gb148, 2, none⟩ = some (.bool t146) := (blk_cell BK148.out 2).trans rfl
                  have hcz51_3 : wr.cell? ⟨gb148, 3, none⟩ = some (.bool false) := (blk_cell BK148.out 3).trans rfl
                  have hfz51_0 := blk_frozen BK148.out 0
                  have hfz51_1 := blk_frozen BK148.out 1
                  have hfz51_2 := blk_frozen BK148.out 2
                  have hfz51_3 := blk_frozen BK148.out 3
                  go_wp2
                  go_ret
                  exact ⟨by first | rfl | (simp [errW_none, errW_some] <;> rfl) | (simp [*, errW_none, errW_some] <;> rfl), by repeat (first | (with_reducible first | exact HB.out | apply below_alloc | apply pw_below_drewN | apply below_drew1 | refine below_set ?_ GE136.out | refine below_set ?_ GE142.out | refine below_set ?_ GE148.out | refine below_set ?_ GE154.out) | exact HB.out)⟩
              · rw [if_neg c42] at H
                have c42b0 : (x15_1 == 0) = false := beq_eq_false_iff_ne.mpr c42
                have c42b1 : (x15_1 != 0) = true := bne_iff_ne.mpr c42
                obtain rfl := Option.some.inj H
                go_wp2
                go_ret
                exact ⟨by first | rfl | (simp [errW_none, errW_some] <;> rfl) | (simp [*, errW_none, errW_some] <;> rfl), by repeat (first | (with_reducible first | exact HB.out | apply below_alloc | apply pw_below_drewN | apply below_drew1 | refine below_set ?_ GE136.out | refine below_set ?_ GE142.out | refine below_set ?_ GE148.out | refine below_set ?_ GE154.out) | exact HB.out)⟩
            · rw [if_neg c41] at H
              have c41b0 : (t149 == t131) = false := beq_eq_false_iff_ne.mpr c41
              have c41b1 : (t149 != t131) = true := bne_iff_ne.mpr c41
              obtain rfl := Option.some.inj H
              go_wp2
              go_ret
              exact ⟨by first | rfl | (simp [errW_none, errW_some] <;> rfl) | (simp [*, errW_none, errW_some] <;> rfl), by repeat (first | (with_reducible first | exact HB.out | apply below_alloc | apply pw_below_drewN | apply below_drew1 | refine below_set ?_ GE136.out | refine below_set ?_ GE142.out | refine below_set ?_ GE148.out | refine below_set ?_ GE154.out) | exact HB.out)⟩
          · rw [if_neg c40] at H
            have c40b0 : (t137 == t143) = false := beq_eq_false_iff_ne.mpr c40
            have c40b1 : (t137 != t143) = true := bne_iff_ne.mpr c40
            obtain rfl := Option.some.inj H
            go_wp2
            go_ret
            exact ⟨by first | rfl | (simp [errW_none, errW_some] <;> rfl) | (simp [*, errW_none, errW_some] <;> rfl), by repeat (first | (with_reducible first | exact HB.out | apply below_alloc | apply pw_below_drewN | apply below_drew1 | refine below_set ?_ GE136.out | refine below_set ?_ GE142.out | refine below_set ?_ GE148.out | refine below_set ?_ GE154.out) | exact HB.out)⟩
  · replace c5 := Bool.eq_false_iff.mpr c5
    subst c5
    have H1 : (some false) = some r := by rw [if_neg (show ¬ (false = true) by decide)] at H; exact H
    clear H
    have H := H1
    clear H1
    obtain rfl := Option.some.inj H
    go_enter Try.func5, Try.ntmps5
    go_wp2_with (first | ((with_reducible refine gate_callee (f := 9) rfl ?_); refine goesL_ (some 17) rfl rfl Try.func9 (by kernel_rfl) rfl #[] rfl (by (try simp only [List.map_toArray, List.map_cons, List.map_nil]); first | done | rfl | (simp only [List.length_drop, List.length_take]; rfl)) ?_; (with_reducible refine (camshaftlaw09_alive.calls  false _ A4.out).mono ?_); rintro e w52 ⟨rfl, hb⟩; refine ⟨_, rfl, ?_⟩; have n0_ := Aside0.mk (below_step (by repeat (first | (with_reducible first | exact HB.out | apply below_alloc | apply pw_below_drewN | apply below_drew1) | exact HB.out)) hb); clear HB; have HB := n0_; clear n0_; (try clear hb); (try clear hb2); (try clear hk); (try clear hi)))
    go_ret
    exact ⟨by first | rfl | (simp [errW_none, errW_some] <;> rfl) | (simp [*, errW_none, errW_some] <;> rfl), by repeat (first | (with_reducible first | exact HB.out | apply below_alloc | apply pw_below_drewN | apply below_drew1) | exact HB.out)⟩

/-- THE ONE PURE STATEMENT of camshaftlaw09_ShiftTurns: yours. -/
def camshaftlaw09_ShiftTurns.Pure : Prop := ∀ (a0 : Int) (a1 : Int) (a2 : Int), (Lit.int .u8 a0).wf = true → (Lit.int .u8 a1).wf = true → (Lit.int .u32 a2).wf = true → ∃ k, camshaftlaw09_ShiftTurns.f k a0 a1 a2 = some true
theorem camshaftlaw09_ShiftTurns.walk (P : camshaftlaw09_ShiftTurns.Pure) (a0 : Int) (a1 : Int) (a2 : Int) (w : World) (w0 : (Lit.int .u8 a0).wf = true) (w1 : (Lit.int .u8 a1).wf = true) (w2 : (Lit.int .u32 a2).wf = true) :
    Calls Try.prog 5 #[.int .u8 a0, .int .u8 a1, .int .u32 a2] w fun e w' => e = .returned (.bool true) ∧ Below w.heap.size w w' := by
  obtain ⟨k, h⟩ := P a0 a1 a2 w0 w1 w2
  refine (camshaftlaw09_ShiftTurns.calls k a0 a1 a2 true w h).mono ?_
  rintro e w' ⟨rfl, hd⟩
  exact ⟨rfl, hd⟩

end Go.Proofs.Ytpjgklpppiongaa.GShiftTurns
