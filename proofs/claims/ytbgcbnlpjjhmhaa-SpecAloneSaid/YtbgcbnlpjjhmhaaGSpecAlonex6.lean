-- Written by gprint.py, a program of this session: its own text.
import Derived.Test.YtbgcbnlpjjhmhaaGSpecSizesx0
import Derived.Test.YtbgcbnlpjjhmhaaGSpecSizesx1
import Derived.Test.YtbgcbnlpjjhmhaaGSpecSizesx5
namespace Go.Proofs.Ytbgcbnlpjjhmhaa.GSpecAlone
open Go.RowKit Go.Proofs.Ytbgcbnlpjjhmhaa.GSpecSizes Go.Proofs.YtbgcbnlpjjhmhaaW.PrintWords Go.Proofs.YtbgcbnlpjjhmhaaW.PrintLast Go.Proofs.YtbgcbnlpjjhmhaaW.PrintMore
attribute [local go_sem] max2_int min2_int max_two min_two max_three min_three max_four min_four   -- for this text's walks alone
set_option linter.unusedVariables false
set_option linter.unusedSimpArgs false

attribute [local go_sem high] eqA66
theorem bkN {w : World} {g : Nat} {o : Obj} (h : w.heap[g]? = some o) (n : Nat) : (w.drewN n).heap[g]? = some o := blk_drewN h n
theorem bkD {w : World} {g : Nat} {o : Obj} (h : w.heap[g]? = some o) : w.drew.heap[g]? = some o := blk_drew h
theorem bkA {w : World} {g : Nat} {o : Obj} (h : w.heap[g]? = some o) (o' : Obj) : (w.alloc o').heap[g]? = some o := blk_alloc h o'
theorem blS {w W : World} {g j : Nat} {v : Value} (h : Below w.heap.size w W) (hg : w.heap.size ≤ g) : Below w.heap.size w (W.setCell ⟨g, j, none⟩ v) := below_set h hg
/-! ### camshaftlaw11_SpecAlone: function 10 -/
mutual
def camshaftlaw11_SpecAlone.j0 : Nat → List Int → List Int → Bool → Int → Int → Option (Bool)
  | 0, _, _, _, _, _ => none
  | k + 1, x0, x2, x23, x220000, x220001 => if x23 = true then (some true) else ((spec_Decode.f k x0 x220000 x220001).bind fun bt221 => (if bt221.2.2.2.2.2 = 0 then (if bt221.2.2.2.2.1 < 1 then (camshaftlaw11_SpecAlone.j1 k x0 x2 true x220000 x220001 bt221.1 bt221.2.1 bt221.2.2.1 bt221.2.2.2.1 bt221.2.2.2.2.1) else (if bt221.2.2.2.2.1 > (x0.length : Int) then (camshaftlaw11_SpecAlone.j1 k x0 x2 true x220000 x220001 bt221.1 bt221.2.1 bt221.2.2.1 bt221.2.2.2.1 bt221.2.2.2.2.1) else (camshaftlaw11_SpecAlone.j1 k x0 x2 (decide (bt221.2.2.2.2.1 > 6)) x220000 x220001 bt221.1 bt221.2.1 bt221.2.2.1 bt221.2.2.2.1 bt221.2.2.2.2.1))) else (some true)))
def camshaftlaw11_SpecAlone.j1 : Nat → List Int → List Int → Bool → Int → Int → Int → Int → Int → Int → Int → Option (Bool)
  | 0, _, _, _, _, _, _, _, _, _, _ => none
  | k + 1, x0, x2, x46, x220000, x220001, x228000, x228001, x228002, x228003, x228004 => if x46 = true then (some false) else ((some (([] : List Int) : List Int)).bind fun y228 => (if 0 ≤ x228004 then (if x228004 ≤ (x0.length : Int) then (if y228.length + (x0.take (x228004 : Int).toNat).length < 140737488355328 then ((some (y228 ++ (x0.take (x228004 : Int).toNat) : List Int)).bind fun y232 => (if y232.length + x2.length < 140737488355328 then ((spec_Decode.f k (y232 ++ x2) x220000 x220001).bind fun bt238 => (if bt238.2.2.2.2.2 = 0 then (camshaftlaw11_SpecAlone.j2 k x0 (!(bt238.1 == x228000) || (!(bt238.2.1 == x228001) || (!(bt238.2.2.1 == x228002) || (!(bt238.2.2.2.1 == x228003) || (!(bt238.2.2.2.2.1 == x228004)))))) x220000 x220001 x228000 x228001 x228002 x228003 x228004) else (camshaftlaw11_SpecAlone.j2 k x0 true x220000 x220001 x228000 x228001 x228002 x228003 x228004))) else (none))) else (none)) else (none)) else (none)))
def camshaftlaw11_SpecAlone.j2 : Nat → List Int → Bool → Int → Int → Int → Int → Int → Int → Int → Option (Bool)
  | 0, _, _, _, _, _, _, _, _, _ => none
  | k + 1, x0, x66, x220000, x220001, x228000, x228001, x228002, x228003, x228004 => if x66 = true then (some false) else (camshaftlaw11_SpecAlone.l0 k x0 0 x220000 x220001 x228000 x228001 x228002 x228003 x228004)
def camshaftlaw11_SpecAlone.l0 : Nat → List Int → Int → Int → Int → Int → Int → Int → Int → Int → Option (Bool)
  | 0, _, _, _, _, _, _, _, _, _ => none
  | k + 1, x0, x11, x220000, x220001, x228000, x228001, x228002, x228003, x228004 => if x11 < x228004 then (if 0 ≤ x11 then (if x11 ≤ (x0.length : Int) then ((spec_Decode.f k (x0.take (x11 : Int).toNat) x220000 x220001).bind fun bt246 => (if bt246.2.2.2.2.2 = 3 then (if (!(bt246.1 == 0) || (!(bt246.2.1 == 0) || (!(bt246.2.2.1 == 0) || (!(bt246.2.2.2.1 == 0) || (!(bt246.2.2.2.2.1 == 0)))))) = true then (some false) else (camshaftlaw11_SpecAlone.l0 k x0 (wrap64 (x11 + 1)) x220000 x220001 x228000 x228001 x228002 x228003 x228004)) else (some false))) else (none)) else (none)) else (some true)
end
def camshaftlaw11_SpecAlone.f (k : Nat) (l0 : List Int) (a1_0 : Int) (a1_1 : Int) (l2 : List Int) : Option (Bool) := (camshaftlaw11_alive.f k).bind fun t220 => (if t220 = true then (if (l0.length : Int) > 256 then (camshaftlaw11_SpecAlone.j0 k l0 l2 true a1_0 a1_1) else (camshaftlaw11_SpecAlone.j0 k l0 l2 (decide ((l2.length : Int) > 256)) a1_0 a1_1)) else (some false))
theorem camshaftlaw11_SpecAlone.mono_l : ∀ k, (∀ y0 y1 y2 y3 y4, LeO (camshaftlaw11_SpecAlone.j0 k y0 y1 y2 y3 y4) (camshaftlaw11_SpecAlone.j0 (k + 1) y0 y1 y2 y3 y4)) ∧ (∀ y0 y1 y2 y3 y4 y5 y6 y7 y8 y9, LeO (camshaftlaw11_SpecAlone.j1 k y0 y1 y2 y3 y4 y5 y6 y7 y8 y9) (camshaftlaw11_SpecAlone.j1 (k + 1) y0 y1 y2 y3 y4 y5 y6 y7 y8 y9)) ∧ (∀ y0 y1 y2 y3 y4 y5 y6 y7 y8, LeO (camshaftlaw11_SpecAlone.j2 k y0 y1 y2 y3 y4 y5 y6 y7 y8) (camshaftlaw11_SpecAlone.j2 (k + 1) y0 y1 y2 y3 y4 y5 y6 y7 y8)) ∧ (∀ y0 y1 y2 y3 y4 y5 y6 y7 y8, LeO (camshaftlaw11_SpecAlone.l0 k y0 y1 y2 y3 y4 y5 y6 y7 y8) (camshaftlaw11_SpecAlone.l0 (k + 1) y0 y1 y2 y3 y4 y5 y6 y7 y8))
  | 0 => ⟨fun _ _ _ _ _ r h => by simp [camshaftlaw11_SpecAlone.j0] at h, fun _ _ _ _ _ _ _ _ _ _ r h => by simp [camshaftlaw11_SpecAlone.j1] at h, fun _ _ _ _ _ _ _ _ _ r h => by simp [camshaftlaw11_SpecAlone.j2] at h, fun _ _ _ _ _ _ _ _ _ r h => by simp [camshaftlaw11_SpecAlone.l0] at h⟩
  | k + 1 => by
    obtain ⟨ih0, ih1, ih2, ih3⟩ := camshaftlaw11_SpecAlone.mono_l k
    refine ⟨?_, ?_, ?_, ?_⟩
    · intro y0 y1 y2 y3 y4
      unfold camshaftlaw11_SpecAlone.j0
      repeat' first
      | (with_reducible exact ih0 _ _ _ _ _)
      | (with_reducible exact ih1 _ _ _ _ _ _ _ _ _ _)
      | (with_reducible exact ih2 _ _ _ _ _ _ _ _ _)
      | (with_reducible exact ih3 _ _ _ _ _ _ _ _ _)
      | (with_reducible exact camshaftlaw11_alive.mono _)
      | (with_reducible exact spec_Decode.mono _ _ _ _)
      | (with_reducible exact LeO.refl _)
      | (with_reducible exact LeO.none _)
      | (with_reducible refine LeO.ite ?_ ?_)
      | (with_reducible refine LeO.bind ?_ (fun _ => ?_))
      | exact ih0 _ _ _ _ _
      | exact ih1 _ _ _ _ _ _ _ _ _ _
      | exact ih2 _ _ _ _ _ _ _ _ _
      | exact ih3 _ _ _ _ _ _ _ _ _
      | exact camshaftlaw11_alive.mono _
      | exact spec_Decode.mono _ _ _ _
      | exact LeO.none _
      | refine LeO.ite ?_ ?_
      | refine LeO.bind ?_ (fun _ => ?_)
    · intro y0 y1 y2 y3 y4 y5 y6 y7 y8 y9
      unfold camshaftlaw11_SpecAlone.j1
      repeat' first
      | (with_reducible exact ih0 _ _ _ _ _)
      | (with_reducible exact ih1 _ _ _ _ _ _ _ _ _ _)
      | (with_reducible exact ih2 _ _ _ _ _ _ _ _ _)
      | (with_reducible exact ih3 _ _ _ _ _ _ _ _ _)
      | (with_reducible exact camshaftlaw11_alive.mono _)
      | (with_reducible exact spec_Decode.mono _ _ _ _)
      | (with_reducible exact LeO.refl _)
      | (with_reducible exact LeO.none _)
      | (with_reducible refine LeO.ite ?_ ?_)
      | (with_reducible refine LeO.bind ?_ (fun _ => ?_))
      | exact ih0 _ _ _ _ _
      | exact ih1 _ _ _ _ _ _ _ _ _ _
      | exact ih2 _ _ _ _ _ _ _ _ _
      | exact ih3 _ _ _ _ _ _ _ _ _
      | exact camshaftlaw11_alive.mono _
      | exact spec_Decode.mono _ _ _ _
      | exact LeO.none _
      | refine LeO.ite ?_ ?_
      | refine LeO.bind ?_ (fun _ => ?_)
    · intro y0 y1 y2 y3 y4 y5 y6 y7 y8
      unfold camshaftlaw11_SpecAlone.j2
      repeat' first
      | (with_reducible exact ih0 _ _ _ _ _)
      | (with_reducible exact ih1 _ _ _ _ _ _ _ _ _ _)
      | (with_reducible exact ih2 _ _ _ _ _ _ _ _ _)
      | (with_reducible exact ih3 _ _ _ _ _ _ _ _ _)
      | (with_reducible exact camshaftlaw11_alive.mono _)
      | (with_reducible exact spec_Decode.mono _ _ _ _)
      | (with_reducible exact LeO.refl _)
      | (with_reducible exact LeO.none _)
      | (with_reducible refine LeO.ite ?_ ?_)
      | (with_reducible refine LeO.bind ?_ (fun _ => ?_))
      | exact ih0 _ _ _ _ _
      | exact ih1 _ _ _ _ _ _ _ _ _ _
      | exact ih2 _ _ _ _ _ _ _ _ _
      | exact ih3 _ _ _ _ _ _ _ _ _
      | exact camshaftlaw11_alive.mono _
      | exact spec_Decode.mono _ _ _ _
      | exact LeO.none _
      | refine LeO.ite ?_ ?_
      | refine LeO.bind ?_ (fun _ => ?_)
    · intro y0 y1 y2 y3 y4 y5 y6 y7 y8
      unfold camshaftlaw11_SpecAlone.l0
      repeat' first
      | (with_reducible exact ih0 _ _ _ _ _)
      | (with_reducible exact ih1 _ _ _ _ _ _ _ _ _ _)
      | (with_reducible exact ih2 _ _ _ _ _ _ _ _ _)
      | (with_reducible exact ih3 _ _ _ _ _ _ _ _ _)
      | (with_reducible exact camshaftlaw11_alive.mono _)
      | (with_reducible exact spec_Decode.mono _ _ _ _)
      | (with_reducible exact LeO.refl _)
      | (with_reducible exact LeO.none _)
      | (with_reducible refine LeO.ite ?_ ?_)
      | (with_reducible refine LeO.bind ?_ (fun _ => ?_))
      | exact ih0 _ _ _ _ _
      | exact ih1 _ _ _ _ _ _ _ _ _ _
      | exact ih2 _ _ _ _ _ _ _ _ _
      | exact ih3 _ _ _ _ _ _ _ _ _
      | exact camshaftlaw11_alive.mono _
      | exact spec_Decode.mono _ _ _ _
      | exact LeO.none _
      | refine LeO.ite ?_ ?_
      | refine LeO.bind ?_ (fun _ => ?_)
theorem camshaftlaw11_SpecAlone.mono : ∀ a0 a1 a2 a3 k, LeO (camshaftlaw11_SpecAlone.f k a0 a1 a2 a3) (camshaftlaw11_SpecAlone.f (k + 1) a0 a1 a2 a3) := by
  intro a0 a1 a2 a3 k
  obtain ⟨ih0, ih1, ih2, ih3⟩ := camshaftlaw11_SpecAlone.mono_l k
  unfold camshaftlaw11_SpecAlone.f
  repeat' first
      | (with_reducible exact ih0 _ _ _ _ _)
      | (with_reducible exact ih1 _ _ _ _ _ _ _ _ _ _)
      | (with_reducible exact ih2 _ _ _ _ _ _ _ _ _)
      | (with_reducible exact ih3 _ _ _ _ _ _ _ _ _)
      | (with_reducible exact camshaftlaw11_alive.mono _)
      | (with_reducible exact spec_Decode.mono _ _ _ _)
      | (with_reducible exact LeO.refl _)
      | (with_reducible exact LeO.none _)
      | (with_reducible refine LeO.ite ?_ ?_)
      | (with_reducible refine LeO.bind ?_ (fun _ => ?_))
      | exact ih0 _ _ _ _ _
      | exact ih1 _ _ _ _ _ _ _ _ _ _
      | exact ih2 _ _ _ _ _ _ _ _ _
      | exact ih3 _ _ _ _ _ _ _ _ _
      | exact camshaftlaw11_alive.mono _
      | exact spec_Decode.mono _ _ _ _
      | exact LeO.none _
      | refine LeO.ite ?_ ?_
      | refine LeO.bind ?_ (fun _ => ?_)
def camshaftlaw11_SpecAlone.T10 : Bool × List (List Nat × List Nat) := (true, [([], []), ([], []), ([], []), ([2], [2]), ([1, 3], [1, 3]), ([0, 4], [0, 4]), ([], []), ([5, 6, 5], [5, 6]), ([], []), ([7, 8, 7], [7, 8]), ([9], [9]), ([10], [10]), ([10], [10]), ([], []), ([13, 11, 9, 0, 1, 2, 3, 4, 5, 6, 7, 8, 9, 10, 11, 13], [11, 13]), ([12, 14, 0, 1, 2, 3, 4, 5, 6, 7, 8, 9, 10, 11, 12, 13, 14], [12])])
def camshaftlaw11_SpecAlone.B10 : List Nat := [0, 0, 0, 4, 14, 31, 0, 127, 0, 511, 1023, 2047, 2047, 0, 12287, 32767]
theorem camshaftlaw11_SpecAlone.tab10 : rtab .any (opsOf Try.f10 10) = camshaftlaw11_SpecAlone.T10 := by kernel_rfl
theorem camshaftlaw11_SpecAlone.bits10 : waitsOk camshaftlaw11_SpecAlone.T10.2 camshaftlaw11_SpecAlone.B10 = true := by kernel_rfl
def camshaftlaw11_SpecAlone.T16 : Bool × List (List Nat × List Nat) := (true, [([], []), ([], []), ([0, 1], [0, 1]), ([], []), ([2, 3], [2, 3]), ([4], [4]), ([5], [5]), ([5], [5]), ([], []), ([8, 6, 4, 0, 1, 2, 3, 4, 5, 6, 8], [6, 8]), ([7, 9, 0, 1, 2, 3, 4, 5, 6, 7, 8, 9], [7])])
def camshaftlaw11_SpecAlone.B16 : List Nat := [0, 0, 3, 0, 15, 31, 63, 63, 0, 383, 1023]
theorem camshaftlaw11_SpecAlone.tab16 : rtab .any (opsOf Try.f10 16) = camshaftlaw11_SpecAlone.T16 := by kernel_rfl
theorem camshaftlaw11_SpecAlone.bits16 : waitsOk camshaftlaw11_SpecAlone.T16.2 camshaftlaw11_SpecAlone.B16 = true := by kernel_rfl
set_option maxHeartbeats 8000000 in
set_option maxRecDepth 100000 in
theorem camshaftlaw11_SpecAlone.calls (k : Nat) (A0 : Option Addr) (c0 : Nat) (l0 : List Int) (a1_0 : Int) (a1_1 : Int) (A2 : Option Addr) (c2 : Nat) (l2 : List Int) (r : Bool) (w : World) (hr0 : Kd.C (Kd.int .u8) w A0 l0.length l0) (hc0 : l0.length ≤ c0) (hr2 : Kd.C (Kd.int .u8) w A2 l2.length l2) (hc2 : l2.length ≤ c2) (h : camshaftlaw11_SpecAlone.f k l0 a1_0 a1_1 l2 = some r) :
  Calls Try.prog 10 #[.slice A0 l0.length c0, .agg #[.int .u8 a1_0, .int .i64 a1_1], .slice A2 l2.length c2] w fun e w' => e = .returned (.bool r) ∧ Below w.heap.size w w' := by
 have hu64 := Try.underlying64
 have hu66 := Try.underlying66
 have HR0 := Aside0.mk hr0
 have HC0 := Aside0.mk hc0
 clear hr0 hc0
 have HR2 := Aside0.mk hr2
 have HC2 := Aside0.mk hc2
 clear hr2 hc2
 have HB := Aside0.mk (Below.refl w.heap.size w)
 have H : ((camshaftlaw11_alive.f k).bind fun t220 => (if t220 = true then (if (l0.length : Int) > 256 then (camshaftlaw11_SpecAlone.j0 k l0 l2 true a1_0 a1_1) else (camshaftlaw11_SpecAlone.j0 k l0 l2 (decide ((l2.length : Int) > 256)) a1_0 a1_1)) else (some false))) = some r := h
 clear h
 replace H := Option.bind_eq_some_iff.mp H
 obtain ⟨t220, A40, H⟩ := H
 replace H : (if t220 = true then (if (l0.length : Int) > 256 then (camshaftlaw11_SpecAlone.j0 k l0 l2 true a1_0 a1_1) else (camshaftlaw11_SpecAlone.j0 k l0 l2 (decide ((l2.length : Int) > 256)) a1_0 a1_1)) else (some false)) = some r := H
 have A4 := Aside0.mk A40
 clear A40
 by_cases c5 : t220 = true
 ·
  subst c5
  have H1 : (if (l0.length : Int) > 256 then (camshaftlaw11_SpecAlone.j0 k l0 l2 true a1_0 a1_1) else (camshaftlaw11_SpecAlone.j0 k l0 l2 (decide ((l2.length : Int) > 256)) a1_0 a1_1)) = some r := by rw [if_pos rfl] at H; exact H
  clear H
  have H := H1
  clear H1
  have HC6 := Aside0.mk H
  clear H
  go_enter Try.func10, Try.ntmps10
  go_upto_region 3 with (first | ((with_reducible refine gate_dst (N := 4) rfl ?_); (try (refine gate_guard (by rfl) ?_; dsimp only)); refine box_event ?hg (N := 4) ?hd (cs := #[.int .u8 a1_0, .int .i64 a1_1]) (t := 64) ?hr ?_; (case hd => rfl); (case hg => rfl); (case hr => first | (go_simp; done) | (go_simp; rfl)); intro gb219 hg w7 hbox hb; have n0_ := Aside0.mk (below_step (by repeat (first | (with_reducible first | exact HB.out | apply below_alloc | apply pw_below_drewN | apply below_drew1) | exact HB.out)) hb); have n1_ := Aside0.mk (hbox); have n2_ := Aside0.mk ((by rw [hg]; exact (below_size (by repeat (first | (with_reducible first | exact HB.out | apply below_alloc | apply pw_below_drewN | apply below_drew1) | exact HB.out))) : w.heap.size ≤ gb219)); have n3_ := Aside0.mk ((by rw [hg]; exact (below_size (by repeat (first | (with_reducible first | exact HB.out | apply below_alloc | apply pw_below_drewN | apply below_drew1) | exact HB.out))) : w.heap.size ≤ gb219)); clear HB; have HB := n0_; have BK219 := n1_; have GW219 := n2_; have GE219 := n3_; clear n0_ n1_ n2_ n3_; clear hb hbox hg) | ((with_reducible refine gate_callee (f := 31) rfl ?_); refine goesL_ (some 14) rfl rfl Try.func31 (by kernel_rfl) rfl #[] rfl (by (try simp only [List.map_toArray, List.map_cons, List.map_nil]); first | done | rfl | (simp only [List.length_drop, List.length_take]; rfl)) ?_; (with_reducible refine (camshaftlaw11_alive.calls k  true _ A4.out).mono ?_); rintro e w8 ⟨rfl, hb⟩; refine ⟨_, rfl, ?_⟩; have n0_ := Aside0.mk (blk_below (g := gb219) (o := .cells #[.int .u8 a1_0, .int .i64 a1_1] 64 (0, 0)) (by (with_reducible repeat (first | refine bkN ?_ _ | refine bkD ?_ | refine bkA ?_ _)); exact BK219.out) hb); have n1_ := Aside0.mk (below_step (by repeat (first | (with_reducible first | exact HB.out | apply below_alloc | apply pw_below_drewN | apply below_drew1 | refine blS ?_ GE219.out) | exact HB.out)) hb); clear BK219; clear HB; have BK219 := n0_; have HB := n1_; clear n0_ n1_; (try clear hb); (try clear hb2); (try clear hk); (try clear hi)))
  (try simp only [Act.put, List.setIfInBounds_toArray, List.set_cons_zero, List.set_cons_succ])
  go_cut [23] (fun v23 wc => ∃ (kq : Nat) (x23_5 : Bool), v23 = .bool x23_5 ∧ Aside0 (camshaftlaw11_SpecAlone.j0 kq l0 l2 x23_5 a1_0 a1_1 = some r) ∧ Aside0 (kq ≤ k) ∧ Aside0 (wc.heap[gb219]? = some (.cells #[.int .u8 a1_0, .int .i64 a1_1] 64 (0, 0))) ∧ Aside0 (Below w.heap.size w wc))
  case first =>
   have H := HC6.out
   clear HC6
   by_cases c9 : (l0.length : Int) > 256
   ·
    rw [if_pos c9] at H
    have c9b0 : decide (256 < (l0.length : Int)) = true := decide_eq_true c9
    have c9b1 : decide (256 < l0.length) = true := decide_eq_true (by omega)
    clear c9
    (first | rw [c9b0] | (simp only [i64_w, i32_w]; rw [c9b0]) | skip)
    have H' := Aside0.mk H
    clear H
    go_wp2
    go_meet
    case rel => exact ⟨_, (true), (by first | rfl | (simp; done) | (simp [*]; done)), H', ⟨by first | omega | exact Nat.le_refl _⟩, ⟨by (with_reducible repeat (first | refine bkN ?_ _ | refine bkD ?_ | refine bkA ?_ _)); exact BK219.out⟩, ⟨by repeat (first | (with_reducible first | exact HB.out | apply below_alloc | apply pw_below_drewN | apply below_drew1 | refine blS ?_ GE219.out) | exact HB.out)⟩⟩
   ·
    rw [if_neg c9] at H
    have c9b0 : decide (256 < (l0.length : Int)) = false := decide_eq_false c9
    have c9b1 : decide (256 < l0.length) = false := decide_eq_false (by omega)
    clear c9
    (first | rw [c9b0] | (simp only [i64_w, i32_w]; rw [c9b0]) | skip)
    have H' := Aside0.mk H
    clear H
    go_wp2
    go_meet
    case rel => exact ⟨_, (decide ((l2.length : Int) > 256)), (by first | rfl | (simp; done) | (simp [*]; done)), H', ⟨by first | omega | exact Nat.le_refl _⟩, ⟨by (with_reducible repeat (first | refine bkN ?_ _ | refine bkD ?_ | refine bkA ?_ _)); exact BK219.out⟩, ⟨by repeat (first | (with_reducible first | exact HB.out | apply below_alloc | apply pw_below_drewN | apply below_drew1 | refine blS ?_ GE219.out) | exact HB.out)⟩⟩
  case rest =>
   clear HC6
   try clear c1
   try clear c2
   try clear p2
   try clear c3
   try clear c5
   try clear c9
   try clear c9b0
   try clear c9b1
   obtain ⟨kq, x23_5, rfl, HA, HJ5, BK219, HB⟩ := hcut
   cases kq with
   | zero => exact absurd HA.out (by simp [camshaftlaw11_SpecAlone.j0])
   | succ kj5 =>
    have H := HA.out
    clear HA
    simp only [camshaftlaw11_SpecAlone.j0] at H
    by_cases c10 : x23_5 = true
    ·
     subst c10
     have H1 : (some true) = some r := by rw [if_pos rfl] at H; exact H
     clear H
     have H := H1
     clear H1
     obtain rfl := Option.some.inj H
     go_wp2
     go_ret
     exact ⟨by first | rfl | (simp [errW_none, errW_some] <;> rfl) | (simp [*, errW_none, errW_some] <;> rfl), by repeat (first | (with_reducible first | exact HB.out | apply below_alloc | apply pw_below_drewN | apply below_drew1 | refine blS ?_ GE219.out) | exact HB.out)⟩
    ·
     replace c10 := Bool.eq_false_iff.mpr c10
     subst c10
     have H1 : ((spec_Decode.f kj5 l0 a1_0 a1_1).bind fun bt221 => (if bt221.2.2.2.2.2 = 0 then (if bt221.2.2.2.2.1 < 1 then (camshaftlaw11_SpecAlone.j1 kj5 l0 l2 true a1_0 a1_1 bt221.1 bt221.2.1 bt221.2.2.1 bt221.2.2.2.1 bt221.2.2.2.2.1) else (if bt221.2.2.2.2.1 > (l0.length : Int) then (camshaftlaw11_SpecAlone.j1 kj5 l0 l2 true a1_0 a1_1 bt221.1 bt221.2.1 bt221.2.2.1 bt221.2.2.2.1 bt221.2.2.2.2.1) else (camshaftlaw11_SpecAlone.j1 kj5 l0 l2 (decide (bt221.2.2.2.2.1 > 6)) a1_0 a1_1 bt221.1 bt221.2.1 bt221.2.2.1 bt221.2.2.2.1 bt221.2.2.2.2.1))) else (some true))) = some r := by rw [if_neg (show ¬ (false = true) by decide)] at H; exact H
     clear H
     have H := H1
     clear H1
     replace H := Option.bind_eq_some_iff.mp H
     obtain ⟨⟨t221, t222, t223, t224, t225, t226⟩, A110, H⟩ := H
     replace H : (if t226 = 0 then (if t225 < 1 then (camshaftlaw11_SpecAlone.j1 kj5 l0 l2 true a1_0 a1_1 t221 t222 t223 t224 t225) else (if t225 > (l0.length : Int) then (camshaftlaw11_SpecAlone.j1 kj5 l0 l2 true a1_0 a1_1 t221 t222 t223 t224 t225) else (camshaftlaw11_SpecAlone.j1 kj5 l0 l2 (decide (t225 > 6)) a1_0 a1_1 t221 t222 t223 t224 t225))) else (some true)) = some r := H
     have A11 := Aside0.mk A110
     clear A110
     by_cases c12 : t226 = 0
     ·
      rw [if_pos c12] at H
      have c12b0 : (t226 == 0) = true := beq_iff_eq.mpr c12
      have c12b1 : (t226 != 0) = false := bne_eq_false_iff_eq.mpr c12
      clear c12
      have HC13 := Aside0.mk H
      clear H
      have hcz14_0 : wc.cell? ⟨gb219, 0, none⟩ = some (.int .u8 a1_0) := (blk_cell BK219.out 0).trans rfl
      have hcz14_1 : wc.cell? ⟨gb219, 1, none⟩ = some (.int .i64 a1_1) := (blk_cell BK219.out 1).trans rfl
      have hfz14_0 := blk_frozen BK219.out 0
      have hfz14_1 := blk_frozen BK219.out 1
      go_upto_region 8 with (first | ((with_reducible refine gate_callee (f := 32) rfl ?_); refine goesL_ (some 27) rfl rfl Try.func32 (by kernel_rfl) rfl #[.slice A0 l0.length c0, .agg #[.int .u8 a1_0, .int .i64 a1_1]] rfl (by (try simp only [List.map_toArray, List.map_cons, List.map_nil]); first | done | rfl | (simp only [List.length_drop, List.length_take]; rfl)) ?_; (with_reducible refine (spec_Decode.calls kj5 _ _ l0 a1_0 a1_1 t221 t222 t223 t224 t225 t226 _ ?side1 ?side2 A11.out).mono ?_); (case side1 => repeat (first | exact (Kd.C_below HR0.out HB.out) | (with_reducible refine Kd.C_alloc ?_ _) | (with_reducible refine Kd.C_drewN ?_ _) | (with_reducible refine Kd.C_drew ?_))); (case side2 => exact HC0.out); rintro e w15 ⟨rfl, hb⟩; refine ⟨_, rfl, ?_⟩; have n0_ := Aside0.mk (blk_below (g := gb219) (o := .cells #[.int .u8 a1_0, .int .i64 a1_1] 64 (0, 0)) (by (with_reducible repeat (first | refine bkN ?_ _ | refine bkD ?_ | refine bkA ?_ _)); exact BK219.out) hb); have n1_ := Aside0.mk (below_step (by repeat (first | (with_reducible first | exact HB.out | apply below_alloc | apply pw_below_drewN | apply below_drew1 | refine blS ?_ GE219.out) | exact HB.out)) hb); clear BK219; clear HB; have BK219 := n0_; have HB := n1_; clear n0_ n1_; (try clear hb); (try clear hb2); (try clear hk); (try clear hi)) | ((with_reducible refine gate_dst (N := 7) rfl ?_); (try (refine gate_guard (by rfl) ?_; dsimp only)); refine box_event ?hg (N := 7) ?hd (cs := #[.int .i64 0, .int .i64 0, .int .i64 0, .int .u32 0, .int .i64 0]) (t := 66) ?hr ?_; (case hd => rfl); (case hg => rfl); (case hr => first | (go_simp; done) | (go_simp; rfl)); intro gb227 hg w16 hbox hb; have n0_ := Aside0.mk (blk_below (g := gb219) (o := .cells #[.int .u8 a1_0, .int .i64 a1_1] 64 (0, 0)) (by (with_reducible repeat (first | refine bkN ?_ _ | refine bkD ?_ | refine bkA ?_ _)); exact BK219.out) hb); have n1_ := Aside0.mk (below_step (by repeat (first | (with_reducible first | exact HB.out | apply below_alloc | apply pw_below_drewN | apply below_drew1 | refine blS ?_ GE219.out) | exact HB.out)) hb); have n2_ := Aside0.mk (hbox); have n3_ := Aside0.mk ((by rw [hg]; exact (below_size (by repeat (first | (with_reducible first | exact HB.out | apply below_alloc | apply pw_below_drewN | apply below_drew1 | refine blS ?_ GE219.out) | exact HB.out))) : w.heap.size ≤ gb227)); have n4_ := Aside0.mk ((by rw [hg]; exact (below_size (by repeat (first | (with_reducible first | exact HB.out | apply below_alloc | apply pw_below_drewN | apply below_drew1 | refine blS ?_ GE219.out) | exact HB.out))) : w.heap.size ≤ gb227)); have n5_ := Aside0.mk ((by rw [hg]; exact Nat.ne_of_lt (blk_lt (g := gb219) (o := .cells #[.int .u8 a1_0, .int .i64 a1_1] 64 (0, 0)) (by (with_reducible repeat (first | refine bkN ?_ _ | refine bkD ?_ | refine bkA ?_ _)); exact BK219.out)) : gb219 ≠ gb227)); have n6_ := Aside0.mk ((by rw [hg]; exact Nat.ne_of_gt (blk_lt (g := gb219) (o := .cells #[.int .u8 a1_0, .int .i64 a1_1] 64 (0, 0)) (by (with_reducible repeat (first | refine bkN ?_ _ | refine bkD ?_ | refine bkA ?_ _)); exact BK219.out)) : gb227 ≠ gb219)); clear BK219; clear HB; have BK219 := n0_; have HB := n1_; have BK227 := n2_; have GW227 := n3_; have GE227 := n4_; have NB219_227 := n5_; have NB227_219 := n6_; clear n0_ n1_ n2_ n3_ n4_ n5_ n6_; clear hb hbox hg; have hnb17 := NB227_219.out; have hnc17 := NB219_227.out; have hcz18_0 : w16.cell? ⟨gb227, 0, none⟩ = some (.int .i64 0) := (blk_cell BK227.out 0).trans rfl; have hcz18_1 : w16.cell? ⟨gb227, 1, none⟩ = some (.int .i64 0) := (blk_cell BK227.out 1).trans rfl; have hcz18_2 : w16.cell? ⟨gb227, 2, none⟩ = some (.int .i64 0) := (blk_cell BK227.out 2).trans rfl; have hcz18_3 : w16.cell? ⟨gb227, 3, none⟩ = some (.int .u32 0) := (blk_cell BK227.out 3).trans rfl; have hcz18_4 : w16.cell? ⟨gb227, 4, none⟩ = some (.int .i64 0) := (blk_cell BK227.out 4).trans rfl; have hfz18_0 := blk_frozen BK227.out 0; have hfz18_1 := blk_frozen BK227.out 1; have hfz18_2 := blk_frozen BK227.out 2; have hfz18_3 := blk_frozen BK227.out 3; have hfz18_4 := blk_frozen BK227.out 4))
      (try simp only [Act.put, List.setIfInBounds_toArray, List.set_cons_zero, List.set_cons_succ])
      go_cut [46] (fun v46 wc => ∃ (kq : Nat) (x46_12 : Bool), v46 = .bool x46_12 ∧ Aside0 (camshaftlaw11_SpecAlone.j1 kq l0 l2 x46_12 a1_0 a1_1 t221 t222 t223 t224 t225 = some r) ∧ Aside0 (kq ≤ kj5) ∧ Aside0 (wc.heap[gb219]? = some (.cells #[.int .u8 a1_0, .int .i64 a1_1] 64 (0, 0))) ∧ Aside0 (wc.heap[gb227]? = some (.cells #[.int .i64 t221, .int .i64 t222, .int .i64 t223, .int .u32 t224, .int .i64 t225] 66 (0, 0))) ∧ Aside0 (Below w.heap.size w wc))
      case first =>
       have H := HC13.out
       clear HC13
       by_cases c19 : t225 < 1
       ·
        rw [if_pos c19] at H
        have c19b0 : decide (t225 < 1) = true := decide_eq_true c19
        clear c19
        (first | rw [c19b0] | (simp only [i64_w, i32_w]; rw [c19b0]) | skip)
        have H' := Aside0.mk H
        clear H
        have hnb20 := NB227_219.out
        have hnc20 := NB219_227.out
        have hcz21_0 : w16.cell? ⟨gb227, 0, none⟩ = some (.int .i64 0) := (blk_cell BK227.out 0).trans rfl
        have hcz21_1 : w16.cell? ⟨gb227, 1, none⟩ = some (.int .i64 0) := (blk_cell BK227.out 1).trans rfl
        have hcz21_2 : w16.cell? ⟨gb227, 2, none⟩ = some (.int .i64 0) := (blk_cell BK227.out 2).trans rfl
        have hcz21_3 : w16.cell? ⟨gb227, 3, none⟩ = some (.int .u32 0) := (blk_cell BK227.out 3).trans rfl
        have hcz21_4 : w16.cell? ⟨gb227, 4, none⟩ = some (.int .i64 0) := (blk_cell BK227.out 4).trans rfl
        have hfz21_0 := blk_frozen BK227.out 0
        have hfz21_1 := blk_frozen BK227.out 1
        have hfz21_2 := blk_frozen BK227.out 2
        have hfz21_3 := blk_frozen BK227.out 3
        have hfz21_4 := blk_frozen BK227.out 4
        go_wp2
        go_meet
        case rel => exact ⟨_, (true), (by first | rfl | (simp; done) | (simp [*]; done)), H', ⟨by have := HJ5.out; first | omega | exact Nat.le_refl _⟩, ⟨by (with_reducible repeat (first | refine bkN ?_ _ | refine bkD ?_ | refine bkA ?_ _)); refine blk_far ?_ NB219_227.out _; (with_reducible repeat (first | refine bkN ?_ _ | refine bkD ?_ | refine bkA ?_ _)); refine blk_far ?_ NB219_227.out _; (with_reducible repeat (first | refine bkN ?_ _ | refine bkD ?_ | refine bkA ?_ _)); refine blk_far ?_ NB219_227.out _; (with_reducible repeat (first | refine bkN ?_ _ | refine bkD ?_ | refine bkA ?_ _)); refine blk_far ?_ NB219_227.out _; (with_reducible repeat (first | refine bkN ?_ _ | refine bkD ?_ | refine bkA ?_ _)); refine blk_far ?_ NB219_227.out _; (with_reducible repeat (first | refine bkN ?_ _ | refine bkD ?_ | refine bkA ?_ _)); exact BK219.out⟩, ⟨by (with_reducible repeat (first | refine bkN ?_ _ | refine bkD ?_ | refine bkA ?_ _)); refine blk_put (cs := #[.int .i64 t221, .int .i64 t222, .int .i64 t223, .int .u32 t224, .int .i64 0]) ?_ 4 _ rfl; (with_reducible repeat (first | refine bkN ?_ _ | refine bkD ?_ | refine bkA ?_ _)); refine blk_put (cs := #[.int .i64 t221, .int .i64 t222, .int .i64 t223, .int .u32 0, .int .i64 0]) ?_ 3 _ rfl; (with_reducible repeat (first | refine bkN ?_ _ | refine bkD ?_ | refine bkA ?_ _)); refine blk_put (cs := #[.int .i64 t221, .int .i64 t222, .int .i64 0, .int .u32 0, .int .i64 0]) ?_ 2 _ rfl; (with_reducible repeat (first | refine bkN ?_ _ | refine bkD ?_ | refine bkA ?_ _)); refine blk_put (cs := #[.int .i64 t221, .int .i64 0, .int .i64 0, .int .u32 0, .int .i64 0]) ?_ 1 _ rfl; (with_reducible repeat (first | refine bkN ?_ _ | refine bkD ?_ | refine bkA ?_ _)); refine blk_put (cs := #[.int .i64 0, .int .i64 0, .int .i64 0, .int .u32 0, .int .i64 0]) ?_ 0 _ rfl; (with_reducible repeat (first | refine bkN ?_ _ | refine bkD ?_ | refine bkA ?_ _)); exact BK227.out⟩, ⟨by repeat (first | (with_reducible first | exact HB.out | apply below_alloc | apply pw_below_drewN | apply below_drew1 | refine blS ?_ GE219.out | refine blS ?_ GE227.out) | exact HB.out)⟩⟩
       ·
        rw [if_neg c19] at H
        have c19b0 : decide (t225 < 1) = false := decide_eq_false c19
        clear c19
        (first | rw [c19b0] | (simp only [i64_w, i32_w]; rw [c19b0]) | skip)
        by_cases c22 : t225 > (l0.length : Int)
        ·
         rw [if_pos c22] at H
         have c22b0 : decide ((l0.length : Int) < t225) = true := decide_eq_true c22
         clear c22
         have H' := Aside0.mk H
         clear H
         have hnb23 := NB227_219.out
         have hnc23 := NB219_227.out
         have hcz24_0 : w16.cell? ⟨gb227, 0, none⟩ = some (.int .i64 0) := (blk_cell BK227.out 0).trans rfl
         have hcz24_1 : w16.cell? ⟨gb227, 1, none⟩ = some (.int .i64 0) := (blk_cell BK227.out 1).trans rfl
         have hcz24_2 : w16.cell? ⟨gb227, 2, none⟩ = some (.int .i64 0) := (blk_cell BK227.out 2).trans rfl
         have hcz24_3 : w16.cell? ⟨gb227, 3, none⟩ = some (.int .u32 0) := (blk_cell BK227.out 3).trans rfl
         have hcz24_4 : w16.cell? ⟨gb227, 4, none⟩ = some (.int .i64 0) := (blk_cell BK227.out 4).trans rfl
         have hfz24_0 := blk_frozen BK227.out 0
         have hfz24_1 := blk_frozen BK227.out 1
         have hfz24_2 := blk_frozen BK227.out 2
         have hfz24_3 := blk_frozen BK227.out 3
         have hfz24_4 := blk_frozen BK227.out 4
         go_wp2
         go_meet
         case rel => exact ⟨_, (true), (by first | rfl | (simp; done) | (simp [*]; done)), H', ⟨by have := HJ5.out; first | omega | exact Nat.le_refl _⟩, ⟨by (with_reducible repeat (first | refine bkN ?_ _ | refine bkD ?_ | refine bkA ?_ _)); refine blk_far ?_ NB219_227.out _; (with_reducible repeat (first | refine bkN ?_ _ | refine bkD ?_ | refine bkA ?_ _)); refine blk_far ?_ NB219_227.out _; (with_reducible repeat (first | refine bkN ?_ _ | refine bkD ?_ | refine bkA ?_ _)); refine blk_far ?_ NB219_227.out _; (with_reducible repeat (first | refine bkN ?_ _ | refine bkD ?_ | refine bkA ?_ _)); refine blk_far ?_ NB219_227.out _; (with_reducible repeat (first | refine bkN ?_ _ | refine bkD ?_ | refine bkA ?_ _)); refine blk_far ?_ NB219_227.out _; (with_reducible repeat (first | refine bkN ?_ _ | refine bkD ?_ | refine bkA ?_ _)); exact BK219.out⟩, ⟨by (with_reducible repeat (first | refine bkN ?_ _ | refine bkD ?_ | refine bkA ?_ _)); refine blk_put (cs := #[.int .i64 t221, .int .i64 t222, .int .i64 t223, .int .u32 t224, .int .i64 0]) ?_ 4 _ rfl; (with_reducible repeat (first | refine bkN ?_ _ | refine bkD ?_ | refine bkA ?_ _)); refine blk_put (cs := #[.int .i64 t221, .int .i64 t222, .int .i64 t223, .int .u32 0, .int .i64 0]) ?_ 3 _ rfl; (with_reducible repeat (first | refine bkN ?_ _ | refine bkD ?_ | refine bkA ?_ _)); refine blk_put (cs := #[.int .i64 t221, .int .i64 t222, .int .i64 0, .int .u32 0, .int .i64 0]) ?_ 2 _ rfl; (with_reducible repeat (first | refine bkN ?_ _ | refine bkD ?_ | refine bkA ?_ _)); refine blk_put (cs := #[.int .i64 t221, .int .i64 0, .int .i64 0, .int .u32 0, .int .i64 0]) ?_ 1 _ rfl; (with_reducible repeat (first | refine bkN ?_ _ | refine bkD ?_ | refine bkA ?_ _)); refine blk_put (cs := #[.int .i64 0, .int .i64 0, .int .i64 0, .int .u32 0, .int .i64 0]) ?_ 0 _ rfl; (with_reducible repeat (first | refine bkN ?_ _ | refine bkD ?_ | refine bkA ?_ _)); exact BK227.out⟩, ⟨by repeat (first | (with_reducible first | exact HB.out | apply below_alloc | apply pw_below_drewN | apply below_drew1 | refine blS ?_ GE219.out | refine blS ?_ GE227.out) | exact HB.out)⟩⟩
        ·
         rw [if_neg c22] at H
         have c22b0 : decide ((l0.length : Int) < t225) = false := decide_eq_false c22
         clear c22
         have H' := Aside0.mk H
         clear H
         have hnb25 := NB227_219.out
         have hnc25 := NB219_227.out
         have hcz26_0 : w16.cell? ⟨gb227, 0, none⟩ = some (.int .i64 0) := (blk_cell BK227.out 0).trans rfl
         have hcz26_1 : w16.cell? ⟨gb227, 1, none⟩ = some (.int .i64 0) := (blk_cell BK227.out 1).trans rfl
         have hcz26_2 : w16.cell? ⟨gb227, 2, none⟩ = some (.int .i64 0) := (blk_cell BK227.out 2).trans rfl
         have hcz26_3 : w16.cell? ⟨gb227, 3, none⟩ = some (.int .u32 0) := (blk_cell BK227.out 3).trans rfl
         have hcz26_4 : w16.cell? ⟨gb227, 4, none⟩ = some (.int .i64 0) := (blk_cell BK227.out 4).trans rfl
         have hfz26_0 := blk_frozen BK227.out 0
         have hfz26_1 := blk_frozen BK227.out 1
         have hfz26_2 := blk_frozen BK227.out 2
         have hfz26_3 := blk_frozen BK227.out 3
         have hfz26_4 := blk_frozen BK227.out 4
         go_wp2
         go_meet
         case rel => exact ⟨_, (decide (t225 > 6)), (by first | rfl | (simp; done) | (simp [*]; done)), H', ⟨by have := HJ5.out; first | omega | exact Nat.le_refl _⟩, ⟨by (with_reducible repeat (first | refine bkN ?_ _ | refine bkD ?_ | refine bkA ?_ _)); refine blk_far ?_ NB219_227.out _; (with_reducible repeat (first | refine bkN ?_ _ | refine bkD ?_ | refine bkA ?_ _)); refine blk_far ?_ NB219_227.out _; (with_reducible repeat (first | refine bkN ?_ _ | refine bkD ?_ | refine bkA ?_ _)); refine blk_far ?_ NB219_227.out _; (with_reducible repeat (first | refine bkN ?_ _ | refine bkD ?_ | refine bkA ?_ _)); refine blk_far ?_ NB219_227.out _; (with_reducible repeat (first | refine bkN ?_ _ | refine bkD ?_ | refine bkA ?_ _)); refine blk_far ?_ NB219_227.out _; (with_reducible repeat (first | refine bkN ?_ _ | refine bkD ?_ | refine bkA ?_ _)); exact BK219.out⟩, ⟨by (with_reducible repeat (first | refine bkN ?_ _ | refine bkD ?_ | refine bkA ?_ _)); refine blk_put (cs := #[.int .i64 t221, .int .i64 t222, .int .i64 t223, .int .u32 t224, .int .i64 0]) ?_ 4 _ rfl; (with_reducible repeat (first | refine bkN ?_ _ | refine bkD ?_ | refine bkA ?_ _)); refine blk_put (cs := #[.int .i64 t221, .int .i64 t222, .int .i64 t223, .int .u32 0, .int .i64 0]) ?_ 3 _ rfl; (with_reducible repeat (first | refine bkN ?_ _ | refine bkD ?_ | refine bkA ?_ _)); refine blk_put (cs := #[.int .i64 t221, .int .i64 t222, .int .i64 0, .int .u32 0, .int .i64 0]) ?_ 2 _ rfl; (with_reducible repeat (first | refine bkN ?_ _ | refine bkD ?_ | refine bkA ?_ _)); refine blk_put (cs := #[.int .i64 t221, .int .i64 0, .int .i64 0, .int .u32 0, .int .i64 0]) ?_ 1 _ rfl; (with_reducible repeat (first | refine bkN ?_ _ | refine bkD ?_ | refine bkA ?_ _)); refine blk_put (cs := #[.int .i64 0, .int .i64 0, .int .i64 0, .int .u32 0, .int .i64 0]) ?_ 0 _ rfl; (with_reducible repeat (first | refine bkN ?_ _ | refine bkD ?_ | refine bkA ?_ _)); exact BK227.out⟩, ⟨by repeat (first | (with_reducible first | exact HB.out | apply below_alloc | apply pw_below_drewN | apply below_drew1 | refine blS ?_ GE219.out | refine blS ?_ GE227.out) | exact HB.out)⟩⟩
      case rest =>
       clear HC13
       try clear c1
       try clear c2
       try clear p2
       try clear c3
       try clear c5
       try clear c9
       try clear c9b0
       try clear c9b1
       try clear c10
       try clear c12
       try clear c12b0
       try clear c12b1
       try clear c17
       try clear c19
       try clear c19b0
       try clear c20
       try clear c22
       try clear c22b0
       try clear c23
       try clear c25
       try clear hcz14_0
       try clear hcz14_1
       try clear hcz18_0
       try clear hcz18_1
       try clear hcz18_2
       try clear hcz18_3
       try clear hcz18_4
       try clear hcz21_0
       try clear hcz21_1
       try clear hcz21_2
       try clear hcz21_3
       try clear hcz21_4
       try clear hcz24_0
       try clear hcz24_1
       try clear hcz24_2
       try clear hcz24_3
       try clear hcz24_4
       try clear hcz26_0
       try clear hcz26_1
       try clear hcz26_2
       try clear hcz26_3
       try clear hcz26_4
       try clear hfz14_0
       try clear hfz14_1
       try clear hfz18_0
       try clear hfz18_1
       try clear hfz18_2
       try clear hfz18_3
       try clear hfz18_4
       try clear hfz21_0
       try clear hfz21_1
       try clear hfz21_2
       try clear hfz21_3
       try clear hfz21_4
       try clear hfz24_0
       try clear hfz24_1
       try clear hfz24_2
       try clear hfz24_3
       try clear hfz24_4
       try clear hfz26_0
       try clear hfz26_1
       try clear hfz26_2
       try clear hfz26_3
       try clear hfz26_4
       try clear p2
       obtain ⟨kq, x46_12, rfl, HA, HJ12, BK219, BK227, HB⟩ := hcut
       cases kq with
       | zero => exact absurd HA.out (by simp [camshaftlaw11_SpecAlone.j1])
       | succ kj12 =>
        have H := HA.out
        clear HA
        simp only [camshaftlaw11_SpecAlone.j1] at H
        by_cases c27 : x46_12 = true
        ·
         subst c27
         have H1 : (some false) = some r := by rw [if_pos rfl] at H; exact H
         clear H
         have H := H1
         clear H1
         obtain rfl := Option.some.inj H
         go_wp2
         go_ret
         exact ⟨by first | rfl | (simp [errW_none, errW_some] <;> rfl) | (simp [*, errW_none, errW_some] <;> rfl), by repeat (first | (with_reducible first | exact HB.out | apply below_alloc | apply pw_below_drewN | apply below_drew1 | refine blS ?_ GE219.out | refine blS ?_ GE227.out) | exact HB.out)⟩
        ·
         replace c27 := Bool.eq_false_iff.mpr c27
         subst c27
         have H1 : ((some (([] : List Int) : List Int)).bind fun y228 => (if 0 ≤ t225 then (if t225 ≤ (l0.length : Int) then (if y228.length + (l0.take (t225 : Int).toNat).length < 140737488355328 then ((some (y228 ++ (l0.take (t225 : Int).toNat) : List Int)).bind fun y232 => (if y232.length + l2.length < 140737488355328 then ((spec_Decode.f kj12 (y232 ++ l2) a1_0 a1_1).bind fun bt238 => (if bt238.2.2.2.2.2 = 0 then (camshaftlaw11_SpecAlone.j2 kj12 l0 (!(bt238.1 == t221) || (!(bt238.2.1 == t222) || (!(bt238.2.2.1 == t223) || (!(bt238.2.2.2.1 == t224) || (!(bt238.2.2.2.2.1 == t225)))))) a1_0 a1_1 t221 t222 t223 t224 t225) else (camshaftlaw11_SpecAlone.j2 kj12 l0 true a1_0 a1_1 t221 t222 t223 t224 t225))) else (none))) else (none)) else (none)) else (none))) = some r := by rw [if_neg (show ¬ (false = true) by decide)] at H; exact H
         clear H
         have H := H1
         clear H1
         obtain ⟨y228, hy228⟩ : ∃ y_ : List Int, y_ = (([] : List Int)) := ⟨_, rfl⟩
         replace H : (if 0 ≤ t225 then (if t225 ≤ (l0.length : Int) then (if y228.length + (l0.take (t225 : Int).toNat).length < 140737488355328 then ((some (y228 ++ (l0.take (t225 : Int).toNat) : List Int)).bind fun y232 => (if y232.length + l2.length < 140737488355328 then ((spec_Decode.f kj12 (y232 ++ l2) a1_0 a1_1).bind fun bt238 => (if bt238.2.2.2.2.2 = 0 then (camshaftlaw11_SpecAlone.j2 kj12 l0 (!(bt238.1 == t221) || (!(bt238.2.1 == t222) || (!(bt238.2.2.1 == t223) || (!(bt238.2.2.2.1 == t224) || (!(bt238.2.2.2.2.1 == t225)))))) a1_0 a1_1 t221 t222 t223 t224 t225) else (camshaftlaw11_SpecAlone.j2 kj12 l0 true a1_0 a1_1 t221 t222 t223 t224 t225))) else (none))) else (none)) else (none)) else (none)) = some r := by first | (rw [hy228]; with_reducible exact H) | (have H2_ := (Option.bind_some _ _).symm.trans H; rw [hy228]; with_reducible exact H2_) | (have H2_ := (Option.bind_some _ _).symm.trans H; with_reducible exact H2_) | with_reducible exact H | (rw [hy228]; exact H) | exact H
         have Ny228 := Aside0.mk hy228
         clear hy228
         by_cases c28 : 0 ≤ t225
         ·
          rw [if_pos c28] at H
          have c28b0 := eq_true c28
          have c28b1 : decide (0 ≤ t225) = true := decide_eq_true c28
          clear c28
          by_cases c29 : t225 ≤ (l0.length : Int)
          ·
           rw [if_pos c29] at H
           have c29b0 := eq_true c29
           have c29b1 : decide (t225 ≤ (l0.length : Int)) = true := decide_eq_true c29
           clear c29
           by_cases c30 : y228.length + (l0.take (t225 : Int).toNat).length < 140737488355328
           ·
            rw [if_pos c30] at H
            have LMc30 := Aside0.mk c30
            clear c30
            obtain ⟨y232, hy232⟩ : ∃ y_ : List Int, y_ = (y228 ++ (l0.take (t225 : Int).toNat)) := ⟨_, rfl⟩
            replace H : (if y232.length + l2.length < 140737488355328 then ((spec_Decode.f kj12 (y232 ++ l2) a1_0 a1_1).bind fun bt238 => (if bt238.2.2.2.2.2 = 0 then (camshaftlaw11_SpecAlone.j2 kj12 l0 (!(bt238.1 == t221) || (!(bt238.2.1 == t222) || (!(bt238.2.2.1 == t223) || (!(bt238.2.2.2.1 == t224) || (!(bt238.2.2.2.2.1 == t225)))))) a1_0 a1_1 t221 t222 t223 t224 t225) else (camshaftlaw11_SpecAlone.j2 kj12 l0 true a1_0 a1_1 t221 t222 t223 t224 t225))) else (none)) = some r := by first | (rw [hy232]; with_reducible exact H) | (have H2_ := (Option.bind_some _ _).symm.trans H; rw [hy232]; with_reducible exact H2_) | (have H2_ := (Option.bind_some _ _).symm.trans H; with_reducible exact H2_) | with_reducible exact H | (rw [hy232]; exact H) | exact H
            have Ny232 := Aside0.mk hy232
            clear hy232
            by_cases c31 : y232.length + l2.length < 140737488355328
            ·
             rw [if_pos c31] at H
             have LMc31 := Aside0.mk c31
             clear c31
             obtain ⟨y235, hy235⟩ : ∃ y_ : List Int, y_ = (y232 ++ l2) := ⟨_, rfl⟩
             replace H : ((spec_Decode.f kj12 y235 a1_0 a1_1).bind fun bt238 => (if bt238.2.2.2.2.2 = 0 then (camshaftlaw11_SpecAlone.j2 kj12 l0 (!(bt238.1 == t221) || (!(bt238.2.1 == t222) || (!(bt238.2.2.1 == t223) || (!(bt238.2.2.2.1 == t224) || (!(bt238.2.2.2.2.1 == t225)))))) a1_0 a1_1 t221 t222 t223 t224 t225) else (camshaftlaw11_SpecAlone.j2 kj12 l0 true a1_0 a1_1 t221 t222 t223 t224 t225))) = some r := by first | (rw [hy235]; with_reducible exact H) | (have H2_ := (Option.bind_some _ _).symm.trans H; rw [hy235]; with_reducible exact H2_) | (have H2_ := (Option.bind_some _ _).symm.trans H; with_reducible exact H2_) | with_reducible exact H | (rw [hy235]; exact H) | exact H
             have Ny235 := Aside0.mk hy235
             clear hy235
             replace H := Option.bind_eq_some_iff.mp H
             obtain ⟨⟨t238, t239, t240, t241, t242, t243⟩, A320, H⟩ := H
             replace H : (if t243 = 0 then (camshaftlaw11_SpecAlone.j2 kj12 l0 (!(t238 == t221) || (!(t239 == t222) || (!(t240 == t223) || (!(t241 == t224) || (!(t242 == t225)))))) a1_0 a1_1 t221 t222 t223 t224 t225) else (camshaftlaw11_SpecAlone.j2 kj12 l0 true a1_0 a1_1 t221 t222 t223 t224 t225)) = some r := H
             have A32 := Aside0.mk A320
             clear A320
             have HC33 := Aside0.mk H
             clear H
             try go_wp2
             have n0_ := Aside0.mk (bkD BK219.out)
             have n1_ := Aside0.mk (bkD BK227.out)
             have n2_ := Aside0.mk (below_drew1 HB.out)
             clear BK219
             clear BK227
             clear HB
             have BK219 := n0_
             have BK227 := n1_
             have HB := n2_
             clear n0_ n1_ n2_
             obtain ⟨i035, hi035, _, hsz35, _⟩ := info_parts info5
             obtain ⟨hcut35, hA35, hC35⟩ := print_take_of (P := Try.prog) (Value.int .u8) 0 62 5 .i64 Try.underlying62 hi035 hsz35 A0 c0 l0 t225 (of_decide_eq_true (by first | (with_reducible assumption) | assumption)) (of_decide_eq_true (by first | (with_reducible assumption) | assumption)) HC0.out
             have HR231 := Aside0.mk (Kd.C_of_reads (h1 := fun _ => rfl) (hA35 _ (Kd.reads_of_C HR0.out)))
             have HC231 := Aside0.mk hC35
             clear hA35 hC35 hi035 hsz35
             refine start_ (n := 16) (S := fun w' => w'.cell? ⟨gb227, 0, none⟩ = some (.int .i64 t221) ∧ w'.cell? ⟨gb227, 1, none⟩ = some (.int .i64 t222) ∧ w'.cell? ⟨gb227, 2, none⟩ = some (.int .i64 t223) ∧ w'.cell? ⟨gb227, 3, none⟩ = some (.int .u32 t224) ∧ w'.cell? ⟨gb227, 4, none⟩ = some (.int .i64 t225) ∧ w'.cell? ⟨gb219, 0, none⟩ = some (.int .u8 a1_0) ∧ w'.cell? ⟨gb219, 1, none⟩ = some (.int .i64 a1_1)) (ds := []) #[false, false, false, false, false, false, false, false, false, false, false, false, false, false, false, false] (by kernel_rfl) rfl rfl ⟨(blk_cell BK227.out 0).trans rfl, (blk_cell BK227.out 1).trans rfl, (blk_cell BK227.out 2).trans rfl, (blk_cell BK227.out 3).trans rfl, (blk_cell BK227.out 4).trans rfl, (blk_cell BK219.out 0).trans rfl, (blk_cell BK219.out 1).trans rfl⟩ (fun hHeld => ?_); refine with_tabW camshaftlaw11_SpecAlone.tab10 camshaftlaw11_SpecAlone.bits10 (fun HT_ HW_ => ?_)
             generalize wc.drew = w34 at BK219 BK227 HB HR231 hHeld ⊢
             refine pure_ (i := 1) (N := some 49) (v := ?_) (a' := ?_) #[false, true, false, false, false, false, false, false, false, false, false, false, false, false, false, false] rfl rfl (any_of HT_.out (by kernel_rfl)) (fun _ _ _ h => h) (Or.inl ⟨by rfl, ?_⟩) ?_ ?_
             rotate_left
             ·
              intro w'
              go_simp
              with_reducible rfl
             rotate_left
             ·
              simp only [Act.put, List.setIfInBounds_toArray, List.set_cons_zero, List.set_cons_succ, i64_w, i32_w]
              rfl
             refine pure_ (i := 2) (N := some 50) (v := ?_) (a' := ?_) #[false, true, true, false, false, false, false, false, false, false, false, false, false, false, false, false] rfl rfl (any_of HT_.out (by kernel_rfl)) (fun _ _ _ h => h) (Or.inl ⟨by rfl, ?_⟩) ?_ ?_
             rotate_left
             ·
              intro w'
              go_simp
              with_reducible rfl
             rotate_left
             ·
              simp only [Act.put, List.setIfInBounds_toArray, List.set_cons_zero, List.set_cons_succ, i64_w, i32_w]
              rfl
             refine pure_ (i := 6) (N := some 54) (v := ?_) (a' := ?_) #[false, true, true, false, false, false, true, false, false, false, false, false, false, false, false, false] rfl rfl (any_of HT_.out (by kernel_rfl)) (fun _ _ _ h => h) (Or.inl ⟨by rfl, ?_⟩) ?_ ?_
             rotate_left
             ·
              intro w'
              go_simp
              with_reducible rfl
             rotate_left
             ·
              simp only [Act.put, List.setIfInBounds_toArray, List.set_cons_zero, List.set_cons_succ, i64_w, i32_w]
              rfl
             refine take_ (i := 3) (N := some 51) (v := ?_) (a' := ?_) #[false, true, true, true, false, false, true, false, false, false, false, false, false, false, false, false] rfl rfl (take_ofW HT_.out HW_.out (by kernel_rfl)) (fun _ _ _ h => h) (Or.inl ⟨by rfl, ?_⟩) hHeld ?_ ?_
             rotate_left
             ·
              rintro w' ⟨s0, s1, s2, s3, s4, s5, s6⟩
              go_simp
              with_reducible rfl
             rotate_left
             ·
              simp only [Act.put, List.setIfInBounds_toArray, List.set_cons_zero, List.set_cons_succ, i64_w, i32_w]
              rfl
             refine pure_ (i := 4) (N := some 52) (v := ?_) (a' := ?_) #[false, true, true, true, true, false, true, false, false, false, false, false, false, false, false, false] rfl rfl (any_of HT_.out (by kernel_rfl)) (fun _ _ _ h => h) (Or.inl ⟨by rfl, ?_⟩) ?_ ?_
             rotate_left
             ·
              intro w'
              go_simp
              with_reducible rfl
             rotate_left
             ·
              simp only [Act.put, List.setIfInBounds_toArray, List.set_cons_zero, List.set_cons_succ, i64_w, i32_w]
              rfl
             refine take_ (i := 8) (N := some 56) (v := ?_) (a' := ?_) #[false, true, true, true, true, false, true, false, true, false, false, false, false, false, false, false] rfl rfl (take_ofW HT_.out HW_.out (by kernel_rfl)) (fun _ _ _ h => h) (Or.inl ⟨by rfl, ?_⟩) hHeld ?_ ?_
             rotate_left
             ·
              rintro w' ⟨s0, s1, s2, s3, s4, s5, s6⟩
              go_simp
              with_reducible rfl
             rotate_left
             ·
              simp only [Act.put, List.setIfInBounds_toArray, List.set_cons_zero, List.set_cons_succ, i64_w, i32_w]
              rfl
             refine join_ (σ := Value × Value × Value × Nat) 2 #[true, true, true, true, true, true, true, true, true, true, true, true, true, true, false, false] (fun s_ => [(48, s_.1), (53, s_.2.1), (55, s_.2.2.1), (57, .tuple #[.agg #[.int .i64 t238, .int .i64 t239, .int .i64 t240, .int .u32 t241, .int .i64 t242], .int .i64 t243]), (9, .pointer (some ⟨s_.2.2.2, 0, none⟩)), (47, .tuple #[.agg #[.int .i64 t238, .int .i64 t239, .int .i64 t240, .int .u32 t241, .int .i64 t242], .int .i64 t243]), (58, .agg #[.int .i64 t238, .int .i64 t239, .int .i64 t240, .int .u32 t241, .int .i64 t242]), (59, .int .i64 t243)]) (fun s_ w' => (w'.cell? ⟨gb227, 0, none⟩ = some (.int .i64 t221) ∧ w'.cell? ⟨gb227, 1, none⟩ = some (.int .i64 t222) ∧ w'.cell? ⟨gb227, 2, none⟩ = some (.int .i64 t223) ∧ w'.cell? ⟨gb227, 3, none⟩ = some (.int .u32 t224) ∧ w'.cell? ⟨gb227, 4, none⟩ = some (.int .i64 t225) ∧ w'.cell? ⟨gb219, 0, none⟩ = some (.int .u8 a1_0) ∧ w'.cell? ⟨gb219, 1, none⟩ = some (.int .i64 a1_1)) ∧ (Kd.R (Kd.int .u8) 5 w' w.heap.size (fun _ => True) s_.2.2.1 y235) ∧ (w'.heap[gb219]? = some (.cells #[.int .u8 a1_0, .int .i64 a1_1] 64 (0, 0))) ∧ (w'.heap[gb227]? = some (.cells #[.int .i64 t221, .int .i64 t222, .int .i64 t223, .int .u32 t224, .int .i64 t225] 66 (0, 0))) ∧ (w'.heap[s_.2.2.2]? = some (.cells #[.int .i64 0, .int .i64 0, .int .i64 0, .int .u32 0, .int .i64 0] 66 (0, 0))) ∧ (w.heap.size ≤ s_.2.2.2) ∧ (w.heap.size ≤ s_.2.2.2) ∧ (gb219 ≠ s_.2.2.2) ∧ (s_.2.2.2 ≠ gb219) ∧ (gb227 ≠ s_.2.2.2) ∧ (s_.2.2.2 ≠ gb227) ∧ (Below w.heap.size w w')) ?_ ?_
             rotate_left
             ·
              intro hJ0_5_7_9_13
              refine join_ (σ := Value × Value × Value) 3 #[true, true, true, true, true, true, true, true, true, true, true, true, true, false, false, false] (fun s_ => [(48, s_.1), (53, s_.2.1), (55, s_.2.2), (57, .tuple #[.agg #[.int .i64 t238, .int .i64 t239, .int .i64 t240, .int .u32 t241, .int .i64 t242], .int .i64 t243]), (47, .tuple #[.agg #[.int .i64 t238, .int .i64 t239, .int .i64 t240, .int .u32 t241, .int .i64 t242], .int .i64 t243]), (58, .agg #[.int .i64 t238, .int .i64 t239, .int .i64 t240, .int .u32 t241, .int .i64 t242]), (59, .int .i64 t243)]) (fun s_ w' => (w'.cell? ⟨gb227, 0, none⟩ = some (.int .i64 t221) ∧ w'.cell? ⟨gb227, 1, none⟩ = some (.int .i64 t222) ∧ w'.cell? ⟨gb227, 2, none⟩ = some (.int .i64 t223) ∧ w'.cell? ⟨gb227, 3, none⟩ = some (.int .u32 t224) ∧ w'.cell? ⟨gb227, 4, none⟩ = some (.int .i64 t225) ∧ w'.cell? ⟨gb219, 0, none⟩ = some (.int .u8 a1_0) ∧ w'.cell? ⟨gb219, 1, none⟩ = some (.int .i64 a1_1)) ∧ (Kd.R (Kd.int .u8) 5 w' w.heap.size (fun _ => True) s_.2.2 y235) ∧ (w'.heap[gb219]? = some (.cells #[.int .u8 a1_0, .int .i64 a1_1] 64 (0, 0))) ∧ (w'.heap[gb227]? = some (.cells #[.int .i64 t221, .int .i64 t222, .int .i64 t223, .int .u32 t224, .int .i64 t225] 66 (0, 0))) ∧ (Below w.heap.size w w')) ?_ ?_
              rotate_left
              ·
               intro hJ0_5_7_9
               refine join_ (σ := Value × Value × Value × Nat) 6 #[true, true, true, true, true, true, true, true, true, false, false, false, false, true, false, false] (fun s_ => [(48, s_.1), (53, s_.2.1), (55, s_.2.2.1), (9, .pointer (some ⟨s_.2.2.2, 0, none⟩))]) (fun s_ w' => (w'.cell? ⟨gb227, 0, none⟩ = some (.int .i64 t221) ∧ w'.cell? ⟨gb227, 1, none⟩ = some (.int .i64 t222) ∧ w'.cell? ⟨gb227, 2, none⟩ = some (.int .i64 t223) ∧ w'.cell? ⟨gb227, 3, none⟩ = some (.int .u32 t224) ∧ w'.cell? ⟨gb227, 4, none⟩ = some (.int .i64 t225) ∧ w'.cell? ⟨gb219, 0, none⟩ = some (.int .u8 a1_0) ∧ w'.cell? ⟨gb219, 1, none⟩ = some (.int .i64 a1_1)) ∧ (Kd.R (Kd.int .u8) 5 w' w.heap.size (fun _ => True) s_.2.2.1 y235) ∧ (w'.heap[gb219]? = some (.cells #[.int .u8 a1_0, .int .i64 a1_1] 64 (0, 0))) ∧ (w'.heap[gb227]? = some (.cells #[.int .i64 t221, .int .i64 t222, .int .i64 t223, .int .u32 t224, .int .i64 t225] 66 (0, 0))) ∧ (w'.heap[s_.2.2.2]? = some (.cells #[.int .i64 0, .int .i64 0, .int .i64 0, .int .u32 0, .int .i64 0] 66 (0, 0))) ∧ (w.heap.size ≤ s_.2.2.2) ∧ (w.heap.size ≤ s_.2.2.2) ∧ (gb219 ≠ s_.2.2.2) ∧ (s_.2.2.2 ≠ gb219) ∧ (gb227 ≠ s_.2.2.2) ∧ (s_.2.2.2 ≠ gb227) ∧ (Below w.heap.size w w')) ?_ ?_
               rotate_left
               ·
                intro hJ0_5_7_13
                refine join_ (σ := Value × Value × Value) 7 #[true, true, true, true, true, true, true, true, true, false, false, false, false, false, false, false] (fun s_ => [(48, s_.1), (53, s_.2.1), (55, s_.2.2)]) (fun s_ w' => (w'.cell? ⟨gb227, 0, none⟩ = some (.int .i64 t221) ∧ w'.cell? ⟨gb227, 1, none⟩ = some (.int .i64 t222) ∧ w'.cell? ⟨gb227, 2, none⟩ = some (.int .i64 t223) ∧ w'.cell? ⟨gb227, 3, none⟩ = some (.int .u32 t224) ∧ w'.cell? ⟨gb227, 4, none⟩ = some (.int .i64 t225) ∧ w'.cell? ⟨gb219, 0, none⟩ = some (.int .u8 a1_0) ∧ w'.cell? ⟨gb219, 1, none⟩ = some (.int .i64 a1_1)) ∧ (Kd.R (Kd.int .u8) 5 w' w.heap.size (fun _ => True) s_.2.2 y235) ∧ (w'.heap[gb219]? = some (.cells #[.int .u8 a1_0, .int .i64 a1_1] 64 (0, 0))) ∧ (w'.heap[gb227]? = some (.cells #[.int .i64 t221, .int .i64 t222, .int .i64 t223, .int .u32 t224, .int .i64 t225] 66 (0, 0))) ∧ (Below w.heap.size w w')) ?_ ?_
                rotate_left
                ·
                 intro hJ0_5_7
                 refine join_ (σ := Value × Value × Nat) 7 #[true, true, true, true, true, true, true, false, true, false, false, false, false, true, false, false] (fun s_ => [(48, s_.1), (53, s_.2.1), (9, .pointer (some ⟨s_.2.2, 0, none⟩))]) (fun s_ w' => (w'.cell? ⟨gb227, 0, none⟩ = some (.int .i64 t221) ∧ w'.cell? ⟨gb227, 1, none⟩ = some (.int .i64 t222) ∧ w'.cell? ⟨gb227, 2, none⟩ = some (.int .i64 t223) ∧ w'.cell? ⟨gb227, 3, none⟩ = some (.int .u32 t224) ∧ w'.cell? ⟨gb227, 4, none⟩ = some (.int .i64 t225) ∧ w'.cell? ⟨gb219, 0, none⟩ = some (.int .u8 a1_0) ∧ w'.cell? ⟨gb219, 1, none⟩ = some (.int .i64 a1_1)) ∧ (Kd.R (Kd.int .u8) 5 w' w.heap.size (fun _ => True) s_.2.1 y232) ∧ (w'.heap[gb219]? = some (.cells #[.int .u8 a1_0, .int .i64 a1_1] 64 (0, 0))) ∧ (w'.heap[gb227]? = some (.cells #[.int .i64 t221, .int .i64 t222, .int .i64 t223, .int .u32 t224, .int .i64 t225] 66 (0, 0))) ∧ (w'.heap[s_.2.2]? = some (.cells #[.int .i64 0, .int .i64 0, .int .i64 0, .int .u32 0, .int .i64 0] 66 (0, 0))) ∧ (w.heap.size ≤ s_.2.2) ∧ (w.heap.size ≤ s_.2.2) ∧ (gb219 ≠ s_.2.2) ∧ (s_.2.2 ≠ gb219) ∧ (gb227 ≠ s_.2.2) ∧ (s_.2.2 ≠ gb227) ∧ (Below w.heap.size w w')) ?_ ?_
                 rotate_left
                 ·
                  intro hJ0_5_13
                  refine join_ (σ := Value × Value) 8 #[true, true, true, true, true, true, true, false, true, false, false, false, false, false, false, false] (fun s_ => [(48, s_.1), (53, s_.2)]) (fun s_ w' => (w'.cell? ⟨gb227, 0, none⟩ = some (.int .i64 t221) ∧ w'.cell? ⟨gb227, 1, none⟩ = some (.int .i64 t222) ∧ w'.cell? ⟨gb227, 2, none⟩ = some (.int .i64 t223) ∧ w'.cell? ⟨gb227, 3, none⟩ = some (.int .u32 t224) ∧ w'.cell? ⟨gb227, 4, none⟩ = some (.int .i64 t225) ∧ w'.cell? ⟨gb219, 0, none⟩ = some (.int .u8 a1_0) ∧ w'.cell? ⟨gb219, 1, none⟩ = some (.int .i64 a1_1)) ∧ (Kd.R (Kd.int .u8) 5 w' w.heap.size (fun _ => True) s_.2 y232) ∧ (w'.heap[gb219]? = some (.cells #[.int .u8 a1_0, .int .i64 a1_1] 64 (0, 0))) ∧ (w'.heap[gb227]? = some (.cells #[.int .i64 t221, .int .i64 t222, .int .i64 t223, .int .u32 t224, .int .i64 t225] 66 (0, 0))) ∧ (Below w.heap.size w w')) ?_ ?_
                  rotate_left
                  ·
                   intro hJ0_5
                   refine join_ (σ := Value × Nat) 8 #[true, true, true, true, true, false, true, false, true, false, false, false, false, true, false, false] (fun s_ => [(48, s_.1), (9, .pointer (some ⟨s_.2, 0, none⟩))]) (fun s_ w' => (w'.cell? ⟨gb227, 0, none⟩ = some (.int .i64 t221) ∧ w'.cell? ⟨gb227, 1, none⟩ = some (.int .i64 t222) ∧ w'.cell? ⟨gb227, 2, none⟩ = some (.int .i64 t223) ∧ w'.cell? ⟨gb227, 3, none⟩ = some (.int .u32 t224) ∧ w'.cell? ⟨gb227, 4, none⟩ = some (.int .i64 t225) ∧ w'.cell? ⟨gb219, 0, none⟩ = some (.int .u8 a1_0) ∧ w'.cell? ⟨gb219, 1, none⟩ = some (.int .i64 a1_1)) ∧ (Kd.R (Kd.int .u8) 5 w' w.heap.size (fun _ => True) s_.1 y228) ∧ (w'.heap[gb219]? = some (.cells #[.int .u8 a1_0, .int .i64 a1_1] 64 (0, 0))) ∧ (w'.heap[gb227]? = some (.cells #[.int .i64 t221, .int .i64 t222, .int .i64 t223, .int .u32 t224, .int .i64 t225] 66 (0, 0))) ∧ (w'.heap[s_.2]? = some (.cells #[.int .i64 0, .int .i64 0, .int .i64 0, .int .u32 0, .int .i64 0] 66 (0, 0))) ∧ (w.heap.size ≤ s_.2) ∧ (w.heap.size ≤ s_.2) ∧ (gb219 ≠ s_.2) ∧ (s_.2 ≠ gb219) ∧ (gb227 ≠ s_.2) ∧ (s_.2 ≠ gb227) ∧ (Below w.heap.size w w')) ?_ ?_
                   rotate_left
                   ·
                    intro hJ0_13
                    refine join_ (σ := Value) 9 #[true, true, true, true, true, false, true, false, true, false, false, false, false, false, false, false] (fun s_ => [(48, s_)]) (fun s_ w' => (w'.cell? ⟨gb227, 0, none⟩ = some (.int .i64 t221) ∧ w'.cell? ⟨gb227, 1, none⟩ = some (.int .i64 t222) ∧ w'.cell? ⟨gb227, 2, none⟩ = some (.int .i64 t223) ∧ w'.cell? ⟨gb227, 3, none⟩ = some (.int .u32 t224) ∧ w'.cell? ⟨gb227, 4, none⟩ = some (.int .i64 t225) ∧ w'.cell? ⟨gb219, 0, none⟩ = some (.int .u8 a1_0) ∧ w'.cell? ⟨gb219, 1, none⟩ = some (.int .i64 a1_1)) ∧ (Kd.R (Kd.int .u8) 5 w' w.heap.size (fun _ => True) s_ y228) ∧ (w'.heap[gb219]? = some (.cells #[.int .u8 a1_0, .int .i64 a1_1] 64 (0, 0))) ∧ (w'.heap[gb227]? = some (.cells #[.int .i64 t221, .int .i64 t222, .int .i64 t223, .int .u32 t224, .int .i64 t225] 66 (0, 0))) ∧ (Below w.heap.size w w')) ?_ ?_
                    rotate_left
                    ·
                     intro hJ0
                     refine join_ (σ := Nat) 9 #[false, true, true, true, true, false, true, false, true, false, false, false, false, true, false, false] (fun s_ => [(9, .pointer (some ⟨s_, 0, none⟩))]) (fun s_ w' => (w'.cell? ⟨gb227, 0, none⟩ = some (.int .i64 t221) ∧ w'.cell? ⟨gb227, 1, none⟩ = some (.int .i64 t222) ∧ w'.cell? ⟨gb227, 2, none⟩ = some (.int .i64 t223) ∧ w'.cell? ⟨gb227, 3, none⟩ = some (.int .u32 t224) ∧ w'.cell? ⟨gb227, 4, none⟩ = some (.int .i64 t225) ∧ w'.cell? ⟨gb219, 0, none⟩ = some (.int .u8 a1_0) ∧ w'.cell? ⟨gb219, 1, none⟩ = some (.int .i64 a1_1)) ∧ (w'.heap[gb219]? = some (.cells #[.int .u8 a1_0, .int .i64 a1_1] 64 (0, 0))) ∧ (w'.heap[gb227]? = some (.cells #[.int .i64 t221, .int .i64 t222, .int .i64 t223, .int .u32 t224, .int .i64 t225] 66 (0, 0))) ∧ (w'.heap[s_]? = some (.cells #[.int .i64 0, .int .i64 0, .int .i64 0, .int .u32 0, .int .i64 0] 66 (0, 0))) ∧ (w.heap.size ≤ s_) ∧ (w.heap.size ≤ s_) ∧ (gb219 ≠ s_) ∧ (s_ ≠ gb219) ∧ (gb227 ≠ s_) ∧ (s_ ≠ gb227) ∧ (Below w.heap.size w w')) ?_ ?_
                     rotate_left
                     ·
                      intro hJ13
                      refine two_ (i := 0) (j := 13) (Ni := some 48) (Nj := some 9) #[true, true, true, true, true, false, true, false, true, false, false, false, false, false, false, false] #[false, true, true, true, true, false, true, false, true, false, false, false, false, true, false, false] rfl rfl rfl rfl (two_of HT_.out (by kernel_rfl)) (by decide) (by decide) (fun K hK => ?_) (fun K hK => ?_)
                      ·
                       skip
                       refine Kd.R_lit_step (Kd.int .u8) _ 5 ?hg (N := 48) ?hd (xs := ([] : List Int)) (inner := []) (ok := fun _ => True) (okp := fun _ => True) ?hr ?hp (fun _ hk => hk) trivial (Below.refl _ _) (Nat.le_refl _) (by simp) ?_; (case hd => rfl); (case hg => rfl); (case hr => first | (go_simp; done) | (go_simp; rfl)); (case hp => exact (Reps.none _ _))
                       intro v229 w36 ho37 hb hg_ hnew_
                       clear hg_ hnew_
                       (first | rw [← Ny228.out] at ho37 | (simp only [Int.reduceToNat] at ho37; rw [← Ny228.out] at ho37))
                       have n0_ := Aside0.mk (Kd.R_lower ho37 (below_size (by repeat (first | (with_reducible first | exact HB.out | apply below_alloc | apply pw_below_drewN | apply below_drew1 | refine blS ?_ GE219.out | refine blS ?_ GE227.out) | exact HB.out))))
                       have n1_ := Aside0.mk (blk_below (g := gb219) (o := .cells #[.int .u8 a1_0, .int .i64 a1_1] 64 (0, 0)) (by (with_reducible repeat (first | refine bkN ?_ _ | refine bkD ?_ | refine bkA ?_ _)); exact BK219.out) hb)
                       have n2_ := Aside0.mk (blk_below (g := gb227) (o := .cells #[.int .i64 t221, .int .i64 t222, .int .i64 t223, .int .u32 t224, .int .i64 t225] 66 (0, 0)) (by (with_reducible repeat (first | refine bkN ?_ _ | refine bkD ?_ | refine bkA ?_ _)); exact BK227.out) hb)
                       have n3_ := Aside0.mk (below_step (by repeat (first | (with_reducible first | exact HB.out | apply below_alloc | apply pw_below_drewN | apply below_drew1 | refine blS ?_ GE219.out | refine blS ?_ GE227.out) | exact HB.out)) hb)
                       clear BK219
                       clear BK227
                       clear HB
                       have HO230 := n0_
                       have BK219 := n1_
                       have BK227 := n2_
                       have HB := n3_
                       clear n0_ n1_ n2_ n3_
                       clear hb ho37
                       refine hK.out _ _ ⟨(blk_cell BK227.out 0).trans rfl, (blk_cell BK227.out 1).trans rfl, (blk_cell BK227.out 2).trans rfl, (blk_cell BK227.out 3).trans rfl, (blk_cell BK227.out 4).trans rfl, (blk_cell BK219.out 0).trans rfl, (blk_cell BK219.out 1).trans rfl⟩ (fun hHeld => ?_)
                       clear hK K
                       refine norm_ (a' := ?_) ?_ ?_
                       rotate_left
                       ·
                        show Act.put _ (some 48) _ = _
                        simp only [Act.put, List.setIfInBounds_toArray, List.set_cons_zero, List.set_cons_succ, i64_w, i32_w]
                        rfl
                       exact norm_ (by first | (simp only [putAll, Act.put, List.setIfInBounds_toArray, List.set_cons_zero, List.set_cons_succ]; done) | (simp only [putAll, Act.put, List.setIfInBounds_toArray, List.set_cons_zero, List.set_cons_succ]; rfl)) (hJ0 (v229) _ ⟨hHeld, (by (with_reducible repeat (first | apply Kd.R_alloc | apply Kd.R_drewN | apply Kd.R_drew)); exact HO230.out), (by (with_reducible repeat (first | refine bkN ?_ _ | refine bkD ?_ | refine bkA ?_ _)); exact BK219.out), (by (with_reducible repeat (first | refine bkN ?_ _ | refine bkD ?_ | refine bkA ?_ _)); exact BK227.out), (by repeat (first | (with_reducible first | exact HB.out | apply below_alloc | apply pw_below_drewN | apply below_drew1 | refine blS ?_ GE219.out | refine blS ?_ GE227.out) | exact HB.out))⟩)
                      ·
                       skip
                       refine box_step ?hg (N := 9) ?hd (cs := #[.int .i64 0, .int .i64 0, .int .i64 0, .int .u32 0, .int .i64 0]) (t := 66) ?hr ?_; (case hd => rfl); (case hg => rfl); (case hr => first | (go_simp; done) | (go_simp; rfl))
                       intro gb244 hg w36 hbox hb
                       have n0_ := Aside0.mk (blk_below (g := gb219) (o := .cells #[.int .u8 a1_0, .int .i64 a1_1] 64 (0, 0)) (by (with_reducible repeat (first | refine bkN ?_ _ | refine bkD ?_ | refine bkA ?_ _)); exact BK219.out) hb)
                       have n1_ := Aside0.mk (blk_below (g := gb227) (o := .cells #[.int .i64 t221, .int .i64 t222, .int .i64 t223, .int .u32 t224, .int .i64 t225] 66 (0, 0)) (by (with_reducible repeat (first | refine bkN ?_ _ | refine bkD ?_ | refine bkA ?_ _)); exact BK227.out) hb)
                       have n2_ := Aside0.mk (below_step (by repeat (first | (with_reducible first | exact HB.out | apply below_alloc | apply pw_below_drewN | apply below_drew1 | refine blS ?_ GE219.out | refine blS ?_ GE227.out) | exact HB.out)) hb)
                       have n3_ := Aside0.mk (hbox)
                       have n4_ := Aside0.mk ((by rw [hg]; exact (below_size (by repeat (first | (with_reducible first | exact HB.out | apply below_alloc | apply pw_below_drewN | apply below_drew1 | refine blS ?_ GE219.out | refine blS ?_ GE227.out) | exact HB.out))) : w.heap.size ≤ gb244))
                       have n5_ := Aside0.mk ((by rw [hg]; exact (below_size (by repeat (first | (with_reducible first | exact HB.out | apply below_alloc | apply pw_below_drewN | apply below_drew1 | refine blS ?_ GE219.out | refine blS ?_ GE227.out) | exact HB.out))) : w.heap.size ≤ gb244))
                       have n6_ := Aside0.mk ((by rw [hg]; exact Nat.ne_of_lt (blk_lt (g := gb219) (o := .cells #[.int .u8 a1_0, .int .i64 a1_1] 64 (0, 0)) (by (with_reducible repeat (first | refine bkN ?_ _ | refine bkD ?_ | refine bkA ?_ _)); exact BK219.out)) : gb219 ≠ gb244))
                       have n7_ := Aside0.mk ((by rw [hg]; exact Nat.ne_of_gt (blk_lt (g := gb219) (o := .cells #[.int .u8 a1_0, .int .i64 a1_1] 64 (0, 0)) (by (with_reducible repeat (first | refine bkN ?_ _ | refine bkD ?_ | refine bkA ?_ _)); exact BK219.out)) : gb244 ≠ gb219))
                       have n8_ := Aside0.mk ((by rw [hg]; exact Nat.ne_of_lt (blk_lt (g := gb227) (o := .cells #[.int .i64 t221, .int .i64 t222, .int .i64 t223, .int .u32 t224, .int .i64 t225] 66 (0, 0)) (by (with_reducible repeat (first | refine bkN ?_ _ | refine bkD ?_ | refine bkA ?_ _)); exact BK227.out)) : gb227 ≠ gb244))
                       have n9_ := Aside0.mk ((by rw [hg]; exact Nat.ne_of_gt (blk_lt (g := gb227) (o := .cells #[.int .i64 t221, .int .i64 t222, .int .i64 t223, .int .u32 t224, .int .i64 t225] 66 (0, 0)) (by (with_reducible repeat (first | refine bkN ?_ _ | refine bkD ?_ | refine bkA ?_ _)); exact BK227.out)) : gb244 ≠ gb227))
                       clear BK219
                       clear BK227
                       clear HB
                       have BK219 := n0_
                       have BK227 := n1_
                       have HB := n2_
                       have BK244 := n3_
                       have GW244 := n4_
                       have GE244 := n5_
                       have NB219_244 := n6_
                       have NB244_219 := n7_
                       have NB227_244 := n8_
                       have NB244_227 := n9_
                       clear n0_ n1_ n2_ n3_ n4_ n5_ n6_ n7_ n8_ n9_
                       clear hb hbox hg
                       refine hK.out _ _ ⟨(blk_cell BK227.out 0).trans rfl, (blk_cell BK227.out 1).trans rfl, (blk_cell BK227.out 2).trans rfl, (blk_cell BK227.out 3).trans rfl, (blk_cell BK227.out 4).trans rfl, (blk_cell BK219.out 0).trans rfl, (blk_cell BK219.out 1).trans rfl⟩ (fun hHeld => ?_)
                       clear hK K
                       refine norm_ (a' := ?_) ?_ ?_
                       rotate_left
                       ·
                        show Act.put _ (some 9) _ = _
                        simp only [Act.put, List.setIfInBounds_toArray, List.set_cons_zero, List.set_cons_succ, i64_w, i32_w]
                        rfl
                       exact norm_ (by first | (simp only [putAll, Act.put, List.setIfInBounds_toArray, List.set_cons_zero, List.set_cons_succ]; done) | (simp only [putAll, Act.put, List.setIfInBounds_toArray, List.set_cons_zero, List.set_cons_succ]; rfl)) (hJ13 (gb244) _ ⟨hHeld, (by (with_reducible repeat (first | refine bkN ?_ _ | refine bkD ?_ | refine bkA ?_ _)); exact BK219.out), (by (with_reducible repeat (first | refine bkN ?_ _ | refine bkD ?_ | refine bkA ?_ _)); exact BK227.out), (by (with_reducible repeat (first | refine bkN ?_ _ | refine bkD ?_ | refine bkA ?_ _)); exact BK244.out), GW244.out, GE244.out, NB219_244.out, NB244_219.out, NB227_244.out, NB244_227.out, (by repeat (first | (with_reducible first | exact HB.out | apply below_alloc | apply pw_below_drewN | apply below_drew1 | refine blS ?_ GE219.out | refine blS ?_ GE227.out | refine blS ?_ GE244.out) | exact HB.out))⟩)
                     ·
                      skip
                      rintro gb244 w37 ⟨hS_, h0_, h1_, h2_, h3_, h4_, h5_, h6_, h7_, h8_, h9_⟩
                      have n0_ : Aside0 (w37.heap[gb219]? = some (.cells #[.int .u8 a1_0, .int .i64 a1_1] 64 (0, 0))) := ⟨h0_⟩
                      have n1_ : Aside0 (w37.heap[gb227]? = some (.cells #[.int .i64 t221, .int .i64 t222, .int .i64 t223, .int .u32 t224, .int .i64 t225] 66 (0, 0))) := ⟨h1_⟩
                      have n2_ : Aside0 (w37.heap[gb244]? = some (.cells #[.int .i64 0, .int .i64 0, .int .i64 0, .int .u32 0, .int .i64 0] 66 (0, 0))) := ⟨h2_⟩
                      have n3_ : Aside0 (w.heap.size ≤ gb244) := ⟨h3_⟩
                      have n4_ : Aside0 (w.heap.size ≤ gb244) := ⟨h4_⟩
                      have n5_ : Aside0 (gb219 ≠ gb244) := ⟨h5_⟩
                      have n6_ : Aside0 (gb244 ≠ gb219) := ⟨h6_⟩
                      have n7_ : Aside0 (gb227 ≠ gb244) := ⟨h7_⟩
                      have n8_ : Aside0 (gb244 ≠ gb227) := ⟨h8_⟩
                      have n9_ : Aside0 (Below w.heap.size w w37) := ⟨h9_⟩
                      clear BK219
                      clear BK227
                      clear HB
                      clear h0_ h1_ h2_ h3_ h4_ h5_ h6_ h7_ h8_ h9_
                      have BK219 := n0_
                      have BK227 := n1_
                      have BK244 := n2_
                      have GW244 := n3_
                      have GE244 := n4_
                      have NB219_244 := n5_
                      have NB244_219 := n6_
                      have NB227_244 := n7_
                      have NB244_227 := n8_
                      have HB := n9_
                      clear n0_ n1_ n2_ n3_ n4_ n5_ n6_ n7_ n8_ n9_
                      have hHeld : w37.cell? ⟨gb227, 0, none⟩ = some (.int .i64 t221) ∧ w37.cell? ⟨gb227, 1, none⟩ = some (.int .i64 t222) ∧ w37.cell? ⟨gb227, 2, none⟩ = some (.int .i64 t223) ∧ w37.cell? ⟨gb227, 3, none⟩ = some (.int .u32 t224) ∧ w37.cell? ⟨gb227, 4, none⟩ = some (.int .i64 t225) ∧ w37.cell? ⟨gb219, 0, none⟩ = some (.int .u8 a1_0) ∧ w37.cell? ⟨gb219, 1, none⟩ = some (.int .i64 a1_1) := hS_
                      refine norm_ (a' := ?_) ?_ ?_
                      rotate_left
                      ·
                       simp only [putAll, Act.put, List.setIfInBounds_toArray, List.set_cons_zero, List.set_cons_succ]
                       rfl
                      refine one_ (i := 0) (N := some 48) #[true, true, true, true, true, false, true, false, true, false, false, false, false, true, false, false] rfl rfl (one_of HT_.out (by kernel_rfl)) (by decide) (fun K hK => ?_)
                      refine Kd.R_lit_step (Kd.int .u8) _ 5 ?hg (N := 48) ?hd (xs := ([] : List Int)) (inner := []) (ok := fun _ => True) (okp := fun _ => True) ?hr ?hp (fun _ hk => hk) trivial (Below.refl _ _) (Nat.le_refl _) (by simp) ?_; (case hd => rfl); (case hg => rfl); (case hr => first | (go_simp; done) | (go_simp; rfl)); (case hp => exact (Reps.none _ _))
                      intro v229 w38 ho39 hb hg_ hnew_
                      clear hg_ hnew_
                      (first | rw [← Ny228.out] at ho39 | (simp only [Int.reduceToNat] at ho39; rw [← Ny228.out] at ho39))
                      have n0_ := Aside0.mk (Kd.R_lower ho39 (below_size (by repeat (first | (with_reducible first | exact HB.out | apply below_alloc | apply pw_below_drewN | apply below_drew1 | refine blS ?_ GE219.out | refine blS ?_ GE227.out | refine blS ?_ GE244.out) | exact HB.out))))
                      have n1_ := Aside0.mk (blk_below (g := gb219) (o := .cells #[.int .u8 a1_0, .int .i64 a1_1] 64 (0, 0)) (by (with_reducible repeat (first | refine bkN ?_ _ | refine bkD ?_ | refine bkA ?_ _)); exact BK219.out) hb)
                      have n2_ := Aside0.mk (blk_below (g := gb227) (o := .cells #[.int .i64 t221, .int .i64 t222, .int .i64 t223, .int .u32 t224, .int .i64 t225] 66 (0, 0)) (by (with_reducible repeat (first | refine bkN ?_ _ | refine bkD ?_ | refine bkA ?_ _)); exact BK227.out) hb)
                      have n3_ := Aside0.mk (blk_below (g := gb244) (o := .cells #[.int .i64 0, .int .i64 0, .int .i64 0, .int .u32 0, .int .i64 0] 66 (0, 0)) (by (with_reducible repeat (first | refine bkN ?_ _ | refine bkD ?_ | refine bkA ?_ _)); exact BK244.out) hb)
                      have n4_ := Aside0.mk (below_step (by repeat (first | (with_reducible first | exact HB.out | apply below_alloc | apply pw_below_drewN | apply below_drew1 | refine blS ?_ GE219.out | refine blS ?_ GE227.out | refine blS ?_ GE244.out) | exact HB.out)) hb)
                      clear BK219
                      clear BK227
                      clear BK244
                      clear HB
                      have HO230 := n0_
                      have BK219 := n1_
                      have BK227 := n2_
                      have BK244 := n3_
                      have HB := n4_
                      clear n0_ n1_ n2_ n3_ n4_
                      clear hb ho39
                      refine hK.out _ _ ⟨(blk_cell BK227.out 0).trans rfl, (blk_cell BK227.out 1).trans rfl, (blk_cell BK227.out 2).trans rfl, (blk_cell BK227.out 3).trans rfl, (blk_cell BK227.out 4).trans rfl, (blk_cell BK219.out 0).trans rfl, (blk_cell BK219.out 1).trans rfl⟩ (fun hHeld => ?_)
                      clear hK K
                      refine norm_ (a' := ?_) ?_ ?_
                      rotate_left
                      ·
                       show Act.put _ (some 48) _ = _
                       simp only [Act.put, List.setIfInBounds_toArray, List.set_cons_zero, List.set_cons_succ, i64_w, i32_w]
                       rfl
                      exact norm_ (by first | (simp only [putAll, Act.put, List.setIfInBounds_toArray, List.set_cons_zero, List.set_cons_succ]; done) | (simp only [putAll, Act.put, List.setIfInBounds_toArray, List.set_cons_zero, List.set_cons_succ]; rfl)) (hJ0_13 (v229, gb244) _ ⟨hHeld, (by (with_reducible repeat (first | apply Kd.R_alloc | apply Kd.R_drewN | apply Kd.R_drew)); exact HO230.out), (by (with_reducible repeat (first | refine bkN ?_ _ | refine bkD ?_ | refine bkA ?_ _)); exact BK219.out), (by (with_reducible repeat (first | refine bkN ?_ _ | refine bkD ?_ | refine bkA ?_ _)); exact BK227.out), (by (with_reducible repeat (first | refine bkN ?_ _ | refine bkD ?_ | refine bkA ?_ _)); exact BK244.out), GW244.out, GE244.out, NB219_244.out, NB244_219.out, NB227_244.out, NB244_227.out, (by repeat (first | (with_reducible first | exact HB.out | apply below_alloc | apply pw_below_drewN | apply below_drew1 | refine blS ?_ GE219.out | refine blS ?_ GE227.out | refine blS ?_ GE244.out) | exact HB.out))⟩)
                    ·
                     skip
                     rintro v229 w38 ⟨hS_, h0_, h1_, h2_, h3_⟩
                     have n0_ : Aside0 (Kd.R (Kd.int .u8) 5 w38 w.heap.size (fun _ => True) v229 y228) := ⟨h0_⟩
                     have n1_ : Aside0 (w38.heap[gb219]? = some (.cells #[.int .u8 a1_0, .int .i64 a1_1] 64 (0, 0))) := ⟨h1_⟩
                     have n2_ : Aside0 (w38.heap[gb227]? = some (.cells #[.int .i64 t221, .int .i64 t222, .int .i64 t223, .int .u32 t224, .int .i64 t225] 66 (0, 0))) := ⟨h2_⟩
                     have n3_ : Aside0 (Below w.heap.size w w38) := ⟨h3_⟩
                     clear BK219
                     clear BK227
                     clear HB
                     clear h0_ h1_ h2_ h3_
                     have HO230 := n0_
                     have BK219 := n1_
                     have BK227 := n2_
                     have HB := n3_
                     clear n0_ n1_ n2_ n3_
                     have hHeld : w38.cell? ⟨gb227, 0, none⟩ = some (.int .i64 t221) ∧ w38.cell? ⟨gb227, 1, none⟩ = some (.int .i64 t222) ∧ w38.cell? ⟨gb227, 2, none⟩ = some (.int .i64 t223) ∧ w38.cell? ⟨gb227, 3, none⟩ = some (.int .u32 t224) ∧ w38.cell? ⟨gb227, 4, none⟩ = some (.int .i64 t225) ∧ w38.cell? ⟨gb219, 0, none⟩ = some (.int .u8 a1_0) ∧ w38.cell? ⟨gb219, 1, none⟩ = some (.int .i64 a1_1) := hS_
                     refine norm_ (a' := ?_) ?_ ?_
                     rotate_left
                     ·
                      simp only [putAll, Act.put, List.setIfInBounds_toArray, List.set_cons_zero, List.set_cons_succ]
                      rfl
                     refine two_ (i := 5) (j := 13) (Ni := some 53) (Nj := some 9) #[true, true, true, true, true, true, true, false, true, false, false, false, false, false, false, false] #[true, true, true, true, true, false, true, false, true, false, false, false, false, true, false, false] rfl rfl rfl rfl (two_of HT_.out (by kernel_rfl)) (by decide) (by decide) (fun K hK => ?_) (fun K hK => ?_)
                     ·
                      skip
                      refine Kd.R_append_rows_step (Kd.int .u8) (w0 := w) w.heap.size (by rfl) (.tmp 48) (.tmp 52) 62 5 (.int .u8 0) 1 rfl Try.underlying62 info5 rfl (by decide) (by omega) v229 y228 (l0.take (t225 : Int).toNat) _ _ _ (fun _ => True) (fun _ => False) rfl rfl ?aO ?aR (fun _ _ h => h) (fun _ h => h.elim) ?aF ?aB ?aS ?aL ?_
                      (case aR => have e_ := (show (l0.take (t225 : Int).toNat).length = t225.toNat from (by rw [List.length_take]; have h_ : (t225 : Int) ≤ (l0.length : Int) := of_decide_eq_true (by first | (with_reducible assumption) | assumption); omega)); have q_ := (Kd.C_below HR231.out HB.out); rw [e_] at q_; exact q_)
                      (case aB => exact (by repeat (first | (with_reducible first | exact HB.out | apply below_alloc | apply pw_below_drewN | apply below_drew1 | refine blS ?_ GE219.out | refine blS ?_ GE227.out) | exact HB.out)))
                      (case aF => exact (fun _ _ => trivial))
                      (case aO => exact (by (with_reducible repeat (first | apply Kd.R_alloc | apply Kd.R_drewN | apply Kd.R_drew)); exact HO230.out))
                      (case aS => exact (below_size (by repeat (first | (with_reducible first | exact HB.out | apply below_alloc | apply pw_below_drewN | apply below_drew1 | refine blS ?_ GE219.out | refine blS ?_ GE227.out) | exact HB.out))))
                      (case aL => have := LMc30.out; have hlx_ := (show (l0.take (t225 : Int).toNat).length = t225.toNat from (by rw [List.length_take]; have h_ : (t225 : Int) ≤ (l0.length : Int) := of_decide_eq_true (by first | (with_reducible assumption) | assumption); omega)); omega)
                      intro v233 w39 ho hb hg hat
                      rw [← Ny232.out] at ho
                      have n0_ := Aside0.mk (blk_grown (g := gb219) (o := .cells #[.int .u8 a1_0, .int .i64 a1_1] 64 (0, 0)) (by (with_reducible repeat (first | refine bkN ?_ _ | refine bkD ?_ | refine bkA ?_ _)); exact BK219.out) hg (Kd.R_ne HO230.out BK219.out (by decide)))
                      have n1_ := Aside0.mk (blk_grown (g := gb227) (o := .cells #[.int .i64 t221, .int .i64 t222, .int .i64 t223, .int .u32 t224, .int .i64 t225] 66 (0, 0)) (by (with_reducible repeat (first | refine bkN ?_ _ | refine bkD ?_ | refine bkA ?_ _)); exact BK227.out) hg (Kd.R_ne HO230.out BK227.out (by decide)))
                      have n2_ := Aside0.mk (hb)
                      have n3_ := Aside0.mk (ho)
                      clear BK219
                      clear BK227
                      clear HB
                      clear HO230
                      have BK219 := n0_
                      have BK227 := n1_
                      have HB := n2_
                      have HO234 := n3_
                      clear n0_ n1_ n2_ n3_
                      clear ho hb hg hat
                      refine hK.out _ _ ⟨(blk_cell BK227.out 0).trans rfl, (blk_cell BK227.out 1).trans rfl, (blk_cell BK227.out 2).trans rfl, (blk_cell BK227.out 3).trans rfl, (blk_cell BK227.out 4).trans rfl, (blk_cell BK219.out 0).trans rfl, (blk_cell BK219.out 1).trans rfl⟩ (fun hHeld => ?_)
                      clear hK K
                      refine norm_ (a' := ?_) ?_ ?_
                      rotate_left
                      ·
                       show Act.put _ (some 53) _ = _
                       simp only [Act.put, List.setIfInBounds_toArray, List.set_cons_zero, List.set_cons_succ, i64_w, i32_w]
                       rfl
                      exact norm_ (by first | (simp only [putAll, Act.put, List.setIfInBounds_toArray, List.set_cons_zero, List.set_cons_succ]; done) | (simp only [putAll, Act.put, List.setIfInBounds_toArray, List.set_cons_zero, List.set_cons_succ]; rfl)) (hJ0_5 (v229, v233) _ ⟨hHeld, (by (with_reducible repeat (first | apply Kd.R_alloc | apply Kd.R_drewN | apply Kd.R_drew)); exact HO234.out), (by (with_reducible repeat (first | refine bkN ?_ _ | refine bkD ?_ | refine bkA ?_ _)); exact BK219.out), (by (with_reducible repeat (first | refine bkN ?_ _ | refine bkD ?_ | refine bkA ?_ _)); exact BK227.out), (by repeat (first | (with_reducible first | exact HB.out | apply below_alloc | apply pw_below_drewN | apply below_drew1 | refine blS ?_ GE219.out | refine blS ?_ GE227.out) | exact HB.out))⟩)
                     ·
                      skip
                      refine box_step ?hg (N := 9) ?hd (cs := #[.int .i64 0, .int .i64 0, .int .i64 0, .int .u32 0, .int .i64 0]) (t := 66) ?hr ?_; (case hd => rfl); (case hg => rfl); (case hr => first | (go_simp; done) | (go_simp; rfl))
                      intro gb244 hg w39 hbox hb
                      have n0_ := Aside0.mk (Kd.R_below (by (with_reducible repeat (first | apply Kd.R_alloc | apply Kd.R_drewN | apply Kd.R_drew)); exact HO230.out) hb)
                      have n1_ := Aside0.mk (blk_below (g := gb219) (o := .cells #[.int .u8 a1_0, .int .i64 a1_1] 64 (0, 0)) (by (with_reducible repeat (first | refine bkN ?_ _ | refine bkD ?_ | refine bkA ?_ _)); exact BK219.out) hb)
                      have n2_ := Aside0.mk (blk_below (g := gb227) (o := .cells #[.int .i64 t221, .int .i64 t222, .int .i64 t223, .int .u32 t224, .int .i64 t225] 66 (0, 0)) (by (with_reducible repeat (first | refine bkN ?_ _ | refine bkD ?_ | refine bkA ?_ _)); exact BK227.out) hb)
                      have n3_ := Aside0.mk (below_step (by repeat (first | (with_reducible first | exact HB.out | apply below_alloc | apply pw_below_drewN | apply below_drew1 | refine blS ?_ GE219.out | refine blS ?_ GE227.out) | exact HB.out)) hb)
                      have n4_ := Aside0.mk (hbox)
                      have n5_ := Aside0.mk ((by rw [hg]; exact (below_size (by repeat (first | (with_reducible first | exact HB.out | apply below_alloc | apply pw_below_drewN | apply below_drew1 | refine blS ?_ GE219.out | refine blS ?_ GE227.out) | exact HB.out))) : w.heap.size ≤ gb244))
                      have n6_ := Aside0.mk ((by rw [hg]; exact (below_size (by repeat (first | (with_reducible first | exact HB.out | apply below_alloc | apply pw_below_drewN | apply below_drew1 | refine blS ?_ GE219.out | refine blS ?_ GE227.out) | exact HB.out))) : w.heap.size ≤ gb244))
                      have n7_ := Aside0.mk ((by rw [hg]; exact Nat.ne_of_lt (blk_lt (g := gb219) (o := .cells #[.int .u8 a1_0, .int .i64 a1_1] 64 (0, 0)) (by (with_reducible repeat (first | refine bkN ?_ _ | refine bkD ?_ | refine bkA ?_ _)); exact BK219.out)) : gb219 ≠ gb244))
                      have n8_ := Aside0.mk ((by rw [hg]; exact Nat.ne_of_gt (blk_lt (g := gb219) (o := .cells #[.int .u8 a1_0, .int .i64 a1_1] 64 (0, 0)) (by (with_reducible repeat (first | refine bkN ?_ _ | refine bkD ?_ | refine bkA ?_ _)); exact BK219.out)) : gb244 ≠ gb219))
                      have n9_ := Aside0.mk ((by rw [hg]; exact Nat.ne_of_lt (blk_lt (g := gb227) (o := .cells #[.int .i64 t221, .int .i64 t222, .int .i64 t223, .int .u32 t224, .int .i64 t225] 66 (0, 0)) (by (with_reducible repeat (first | refine bkN ?_ _ | refine bkD ?_ | refine bkA ?_ _)); exact BK227.out)) : gb227 ≠ gb244))
                      have n10_ := Aside0.mk ((by rw [hg]; exact Nat.ne_of_gt (blk_lt (g := gb227) (o := .cells #[.int .i64 t221, .int .i64 t222, .int .i64 t223, .int .u32 t224, .int .i64 t225] 66 (0, 0)) (by (with_reducible repeat (first | refine bkN ?_ _ | refine bkD ?_ | refine bkA ?_ _)); exact BK227.out)) : gb244 ≠ gb227))
                      clear HO230
                      clear BK219
                      clear BK227
                      clear HB
                      have HO230 := n0_
                      have BK219 := n1_
                      have BK227 := n2_
                      have HB := n3_
                      have BK244 := n4_
                      have GW244 := n5_
                      have GE244 := n6_
                      have NB219_244 := n7_
                      have NB244_219 := n8_
                      have NB227_244 := n9_
                      have NB244_227 := n10_
                      clear n0_ n1_ n2_ n3_ n4_ n5_ n6_ n7_ n8_ n9_ n10_
                      clear hb hbox hg
                      refine hK.out _ _ ⟨(blk_cell BK227.out 0).trans rfl, (blk_cell BK227.out 1).trans rfl, (blk_cell BK227.out 2).trans rfl, (blk_cell BK227.out 3).trans rfl, (blk_cell BK227.out 4).trans rfl, (blk_cell BK219.out 0).trans rfl, (blk_cell BK219.out 1).trans rfl⟩ (fun hHeld => ?_)
                      clear hK K
                      refine norm_ (a' := ?_) ?_ ?_
                      rotate_left
                      ·
                       show Act.put _ (some 9) _ = _
                       simp only [Act.put, List.setIfInBounds_toArray, List.set_cons_zero, List.set_cons_succ, i64_w, i32_w]
                       rfl
                      exact norm_ (by first | (simp only [putAll, Act.put, List.setIfInBounds_toArray, List.set_cons_zero, List.set_cons_succ]; done) | (simp only [putAll, Act.put, List.setIfInBounds_toArray, List.set_cons_zero, List.set_cons_succ]; rfl)) (hJ0_13 (v229, gb244) _ ⟨hHeld, (by (with_reducible repeat (first | apply Kd.R_alloc | apply Kd.R_drewN | apply Kd.R_drew)); exact HO230.out), (by (with_reducible repeat (first | refine bkN ?_ _ | refine bkD ?_ | refine bkA ?_ _)); exact BK219.out), (by (with_reducible repeat (first | refine bkN ?_ _ | refine bkD ?_ | refine bkA ?_ _)); exact BK227.out), (by (with_reducible repeat (first | refine bkN ?_ _ | refine bkD ?_ | refine bkA ?_ _)); exact BK244.out), GW244.out, GE244.out, NB219_244.out, NB244_219.out, NB227_244.out, NB244_227.out, (by repeat (first | (with_reducible first | exact HB.out | apply below_alloc | apply pw_below_drewN | apply below_drew1 | refine blS ?_ GE219.out | refine blS ?_ GE227.out | refine blS ?_ GE244.out) | exact HB.out))⟩)
                   ·
                    skip
                    rintro ⟨v229, gb244⟩ w39 ⟨hS_, h0_, h1_, h2_, h3_, h4_, h5_, h6_, h7_, h8_, h9_, h10_⟩
                    have n0_ : Aside0 (Kd.R (Kd.int .u8) 5 w39 w.heap.size (fun _ => True) v229 y228) := ⟨h0_⟩
                    have n1_ : Aside0 (w39.heap[gb219]? = some (.cells #[.int .u8 a1_0, .int .i64 a1_1] 64 (0, 0))) := ⟨h1_⟩
                    have n2_ : Aside0 (w39.heap[gb227]? = some (.cells #[.int .i64 t221, .int .i64 t222, .int .i64 t223, .int .u32 t224, .int .i64 t225] 66 (0, 0))) := ⟨h2_⟩
                    have n3_ : Aside0 (w39.heap[gb244]? = some (.cells #[.int .i64 0, .int .i64 0, .int .i64 0, .int .u32 0, .int .i64 0] 66 (0, 0))) := ⟨h3_⟩
                    have n4_ : Aside0 (w.heap.size ≤ gb244) := ⟨h4_⟩
                    have n5_ : Aside0 (w.heap.size ≤ gb244) := ⟨h5_⟩
                    have n6_ : Aside0 (gb219 ≠ gb244) := ⟨h6_⟩
                    have n7_ : Aside0 (gb244 ≠ gb219) := ⟨h7_⟩
                    have n8_ : Aside0 (gb227 ≠ gb244) := ⟨h8_⟩
                    have n9_ : Aside0 (gb244 ≠ gb227) := ⟨h9_⟩
                    have n10_ : Aside0 (Below w.heap.size w w39) := ⟨h10_⟩
                    clear BK219
                    clear BK227
                    clear HB
                    clear h0_ h1_ h2_ h3_ h4_ h5_ h6_ h7_ h8_ h9_ h10_
                    have HO230 := n0_
                    have BK219 := n1_
                    have BK227 := n2_
                    have BK244 := n3_
                    have GW244 := n4_
                    have GE244 := n5_
                    have NB219_244 := n6_
                    have NB244_219 := n7_
                    have NB227_244 := n8_
                    have NB244_227 := n9_
                    have HB := n10_
                    clear n0_ n1_ n2_ n3_ n4_ n5_ n6_ n7_ n8_ n9_ n10_
                    have hHeld : w39.cell? ⟨gb227, 0, none⟩ = some (.int .i64 t221) ∧ w39.cell? ⟨gb227, 1, none⟩ = some (.int .i64 t222) ∧ w39.cell? ⟨gb227, 2, none⟩ = some (.int .i64 t223) ∧ w39.cell? ⟨gb227, 3, none⟩ = some (.int .u32 t224) ∧ w39.cell? ⟨gb227, 4, none⟩ = some (.int .i64 t225) ∧ w39.cell? ⟨gb219, 0, none⟩ = some (.int .u8 a1_0) ∧ w39.cell? ⟨gb219, 1, none⟩ = some (.int .i64 a1_1) := hS_
                    refine norm_ (a' := ?_) ?_ ?_
                    rotate_left
                    ·
                     simp only [putAll, Act.put, List.setIfInBounds_toArray, List.set_cons_zero, List.set_cons_succ]
                     rfl
                    refine one_ (i := 5) (N := some 53) #[true, true, true, true, true, true, true, false, true, false, false, false, false, true, false, false] rfl rfl (one_of HT_.out (by kernel_rfl)) (by decide) (fun K hK => ?_)
                    refine Kd.R_append_rows_step (Kd.int .u8) (w0 := w) w.heap.size (by rfl) (.tmp 48) (.tmp 52) 62 5 (.int .u8 0) 1 rfl Try.underlying62 info5 rfl (by decide) (by omega) v229 y228 (l0.take (t225 : Int).toNat) _ _ _ (fun _ => True) (fun _ => False) rfl rfl ?aO ?aR (fun _ _ h => h) (fun _ h => h.elim) ?aF ?aB ?aS ?aL ?_
                    (case aR => have e_ := (show (l0.take (t225 : Int).toNat).length = t225.toNat from (by rw [List.length_take]; have h_ : (t225 : Int) ≤ (l0.length : Int) := of_decide_eq_true (by first | (with_reducible assumption) | assumption); omega)); have q_ := (Kd.C_below HR231.out HB.out); rw [e_] at q_; exact q_)
                    (case aB => exact (by repeat (first | (with_reducible first | exact HB.out | apply below_alloc | apply pw_below_drewN | apply below_drew1 | refine blS ?_ GE219.out | refine blS ?_ GE227.out | refine blS ?_ GE244.out) | exact HB.out)))
                    (case aF => exact (fun _ _ => trivial))
                    (case aO => exact (by (with_reducible repeat (first | apply Kd.R_alloc | apply Kd.R_drewN | apply Kd.R_drew)); exact HO230.out))
                    (case aS => exact (below_size (by repeat (first | (with_reducible first | exact HB.out | apply below_alloc | apply pw_below_drewN | apply below_drew1 | refine blS ?_ GE219.out | refine blS ?_ GE227.out | refine blS ?_ GE244.out) | exact HB.out))))
                    (case aL => have := LMc30.out; have hlx_ := (show (l0.take (t225 : Int).toNat).length = t225.toNat from (by rw [List.length_take]; have h_ : (t225 : Int) ≤ (l0.length : Int) := of_decide_eq_true (by first | (with_reducible assumption) | assumption); omega)); omega)
                    intro v233 w40 ho hb hg hat
                    rw [← Ny232.out] at ho
                    have n0_ := Aside0.mk (blk_grown (g := gb219) (o := .cells #[.int .u8 a1_0, .int .i64 a1_1] 64 (0, 0)) (by (with_reducible repeat (first | refine bkN ?_ _ | refine bkD ?_ | refine bkA ?_ _)); exact BK219.out) hg (Kd.R_ne HO230.out BK219.out (by decide)))
                    have n1_ := Aside0.mk (blk_grown (g := gb227) (o := .cells #[.int .i64 t221, .int .i64 t222, .int .i64 t223, .int .u32 t224, .int .i64 t225] 66 (0, 0)) (by (with_reducible repeat (first | refine bkN ?_ _ | refine bkD ?_ | refine bkA ?_ _)); exact BK227.out) hg (Kd.R_ne HO230.out BK227.out (by decide)))
                    have n2_ := Aside0.mk (blk_grown (g := gb244) (o := .cells #[.int .i64 0, .int .i64 0, .int .i64 0, .int .u32 0, .int .i64 0] 66 (0, 0)) (by (with_reducible repeat (first | refine bkN ?_ _ | refine bkD ?_ | refine bkA ?_ _)); exact BK244.out) hg (Kd.R_ne HO230.out BK244.out (by decide)))
                    have n3_ := Aside0.mk (hb)
                    have n4_ := Aside0.mk (ho)
                    clear BK219
                    clear BK227
                    clear BK244
                    clear HB
                    clear HO230
                    have BK219 := n0_
                    have BK227 := n1_
                    have BK244 := n2_
                    have HB := n3_
                    have HO234 := n4_
                    clear n0_ n1_ n2_ n3_ n4_
                    clear ho hb hg hat
                    refine hK.out _ _ ⟨(blk_cell BK227.out 0).trans rfl, (blk_cell BK227.out 1).trans rfl, (blk_cell BK227.out 2).trans rfl, (blk_cell BK227.out 3).trans rfl, (blk_cell BK227.out 4).trans rfl, (blk_cell BK219.out 0).trans rfl, (blk_cell BK219.out 1).trans rfl⟩ (fun hHeld => ?_)
                    clear hK K
                    refine norm_ (a' := ?_) ?_ ?_
                    rotate_left
                    ·
                     show Act.put _ (some 53) _ = _
                     simp only [Act.put, List.setIfInBounds_toArray, List.set_cons_zero, List.set_cons_succ, i64_w, i32_w]
                     rfl
                    exact norm_ (by first | (simp only [putAll, Act.put, List.setIfInBounds_toArray, List.set_cons_zero, List.set_cons_succ]; done) | (simp only [putAll, Act.put, List.setIfInBounds_toArray, List.set_cons_zero, List.set_cons_succ]; rfl)) (hJ0_5_13 (v229, v233, gb244) _ ⟨hHeld, (by (with_reducible repeat (first | apply Kd.R_alloc | apply Kd.R_drewN | apply Kd.R_drew)); exact HO234.out), (by (with_reducible repeat (first | refine bkN ?_ _ | refine bkD ?_ | refine bkA ?_ _)); exact BK219.out), (by (with_reducible repeat (first | refine bkN ?_ _ | refine bkD ?_ | refine bkA ?_ _)); exact BK227.out), (by (with_reducible repeat (first | refine bkN ?_ _ | refine bkD ?_ | refine bkA ?_ _)); exact BK244.out), GW244.out, GE244.out, NB219_244.out, NB244_219.out, NB227_244.out, NB244_227.out, (by repeat (first | (with_reducible first | exact HB.out | apply below_alloc | apply pw_below_drewN | apply below_drew1 | refine blS ?_ GE219.out | refine blS ?_ GE227.out | refine blS ?_ GE244.out) | exact HB.out))⟩)
                  ·
                   skip
                   rintro ⟨v229, v233⟩ w39 ⟨hS_, h0_, h1_, h2_, h3_⟩
                   have n0_ : Aside0 (Kd.R (Kd.int .u8) 5 w39 w.heap.size (fun _ => True) v233 y232) := ⟨h0_⟩
                   have n1_ : Aside0 (w39.heap[gb219]? = some (.cells #[.int .u8 a1_0, .int .i64 a1_1] 64 (0, 0))) := ⟨h1_⟩
                   have n2_ : Aside0 (w39.heap[gb227]? = some (.cells #[.int .i64 t221, .int .i64 t222, .int .i64 t223, .int .u32 t224, .int .i64 t225] 66 (0, 0))) := ⟨h2_⟩
                   have n3_ : Aside0 (Below w.heap.size w w39) := ⟨h3_⟩
                   clear BK219
                   clear BK227
                   clear HB
                   clear h0_ h1_ h2_ h3_
                   have HO234 := n0_
                   have BK219 := n1_
                   have BK227 := n2_
                   have HB := n3_
                   clear n0_ n1_ n2_ n3_
                   have hHeld : w39.cell? ⟨gb227, 0, none⟩ = some (.int .i64 t221) ∧ w39.cell? ⟨gb227, 1, none⟩ = some (.int .i64 t222) ∧ w39.cell? ⟨gb227, 2, none⟩ = some (.int .i64 t223) ∧ w39.cell? ⟨gb227, 3, none⟩ = some (.int .u32 t224) ∧ w39.cell? ⟨gb227, 4, none⟩ = some (.int .i64 t225) ∧ w39.cell? ⟨gb219, 0, none⟩ = some (.int .u8 a1_0) ∧ w39.cell? ⟨gb219, 1, none⟩ = some (.int .i64 a1_1) := hS_
                   refine norm_ (a' := ?_) ?_ ?_
                   rotate_left
                   ·
                    simp only [putAll, Act.put, List.setIfInBounds_toArray, List.set_cons_zero, List.set_cons_succ]
                    rfl
                   refine two_ (i := 7) (j := 13) (Ni := some 55) (Nj := some 9) #[true, true, true, true, true, true, true, true, true, false, false, false, false, false, false, false] #[true, true, true, true, true, true, true, false, true, false, false, false, false, true, false, false] rfl rfl rfl rfl (two_of HT_.out (by kernel_rfl)) (by decide) (by decide) (fun K hK => ?_) (fun K hK => ?_)
                   ·
                    skip
                    refine Kd.R_append_rows_step (Kd.int .u8) (w0 := w) w.heap.size (by rfl) (.tmp 53) (.tmp 54) 62 5 (.int .u8 0) 1 rfl Try.underlying62 info5 rfl (by decide) (by omega) v233 y232 l2 _ _ _ (fun _ => True) (fun _ => False) rfl rfl ?aO ?aR (fun _ _ h => h) (fun _ h => h.elim) ?aF ?aB ?aS ?aL ?_
                    (case aR => repeat (first | exact (Kd.C_below HR2.out HB.out) | (with_reducible refine Kd.C_alloc ?_ _) | (with_reducible refine Kd.C_drewN ?_ _) | (with_reducible refine Kd.C_drew ?_)))
                    (case aB => exact (by repeat (first | (with_reducible first | exact HB.out | apply below_alloc | apply pw_below_drewN | apply below_drew1 | refine blS ?_ GE219.out | refine blS ?_ GE227.out) | exact HB.out)))
                    (case aF => exact (fun _ _ => trivial))
                    (case aO => exact (by (with_reducible repeat (first | apply Kd.R_alloc | apply Kd.R_drewN | apply Kd.R_drew)); exact HO234.out))
                    (case aS => exact (below_size (by repeat (first | (with_reducible first | exact HB.out | apply below_alloc | apply pw_below_drewN | apply below_drew1 | refine blS ?_ GE219.out | refine blS ?_ GE227.out) | exact HB.out))))
                    (case aL => have := LMc31.out; omega)
                    intro v236 w40 ho hb hg hat
                    rw [← Ny235.out] at ho
                    have n0_ := Aside0.mk (blk_grown (g := gb219) (o := .cells #[.int .u8 a1_0, .int .i64 a1_1] 64 (0, 0)) (by (with_reducible repeat (first | refine bkN ?_ _ | refine bkD ?_ | refine bkA ?_ _)); exact BK219.out) hg (Kd.R_ne HO234.out BK219.out (by decide)))
                    have n1_ := Aside0.mk (blk_grown (g := gb227) (o := .cells #[.int .i64 t221, .int .i64 t222, .int .i64 t223, .int .u32 t224, .int .i64 t225] 66 (0, 0)) (by (with_reducible repeat (first | refine bkN ?_ _ | refine bkD ?_ | refine bkA ?_ _)); exact BK227.out) hg (Kd.R_ne HO234.out BK227.out (by decide)))
                    have n2_ := Aside0.mk (hb)
                    have n3_ := Aside0.mk (ho)
                    clear BK219
                    clear BK227
                    clear HB
                    clear HO234
                    have BK219 := n0_
                    have BK227 := n1_
                    have HB := n2_
                    have HO237 := n3_
                    clear n0_ n1_ n2_ n3_
                    clear ho hb hg hat
                    refine hK.out _ _ ⟨(blk_cell BK227.out 0).trans rfl, (blk_cell BK227.out 1).trans rfl, (blk_cell BK227.out 2).trans rfl, (blk_cell BK227.out 3).trans rfl, (blk_cell BK227.out 4).trans rfl, (blk_cell BK219.out 0).trans rfl, (blk_cell BK219.out 1).trans rfl⟩ (fun hHeld => ?_)
                    clear hK K
                    refine norm_ (a' := ?_) ?_ ?_
                    rotate_left
                    ·
                     show Act.put _ (some 55) _ = _
                     simp only [Act.put, List.setIfInBounds_toArray, List.set_cons_zero, List.set_cons_succ, i64_w, i32_w]
                     rfl
                    exact norm_ (by first | (simp only [putAll, Act.put, List.setIfInBounds_toArray, List.set_cons_zero, List.set_cons_succ]; done) | (simp only [putAll, Act.put, List.setIfInBounds_toArray, List.set_cons_zero, List.set_cons_succ]; rfl)) (hJ0_5_7 (v229, v233, v236) _ ⟨hHeld, (by (with_reducible repeat (first | apply Kd.R_alloc | apply Kd.R_drewN | apply Kd.R_drew)); exact HO237.out), (by (with_reducible repeat (first | refine bkN ?_ _ | refine bkD ?_ | refine bkA ?_ _)); exact BK219.out), (by (with_reducible repeat (first | refine bkN ?_ _ | refine bkD ?_ | refine bkA ?_ _)); exact BK227.out), (by repeat (first | (with_reducible first | exact HB.out | apply below_alloc | apply pw_below_drewN | apply below_drew1 | refine blS ?_ GE219.out | refine blS ?_ GE227.out) | exact HB.out))⟩)
                   ·
                    skip
                    refine box_step ?hg (N := 9) ?hd (cs := #[.int .i64 0, .int .i64 0, .int .i64 0, .int .u32 0, .int .i64 0]) (t := 66) ?hr ?_; (case hd => rfl); (case hg => rfl); (case hr => first | (go_simp; done) | (go_simp; rfl))
                    intro gb244 hg w40 hbox hb
                    have n0_ := Aside0.mk (Kd.R_below (by (with_reducible repeat (first | apply Kd.R_alloc | apply Kd.R_drewN | apply Kd.R_drew)); exact HO234.out) hb)
                    have n1_ := Aside0.mk (blk_below (g := gb219) (o := .cells #[.int .u8 a1_0, .int .i64 a1_1] 64 (0, 0)) (by (with_reducible repeat (first | refine bkN ?_ _ | refine bkD ?_ | refine bkA ?_ _)); exact BK219.out) hb)
                    have n2_ := Aside0.mk (blk_below (g := gb227) (o := .cells #[.int .i64 t221, .int .i64 t222, .int .i64 t223, .int .u32 t224, .int .i64 t225] 66 (0, 0)) (by (with_reducible repeat (first | refine bkN ?_ _ | refine bkD ?_ | refine bkA ?_ _)); exact BK227.out) hb)
                    have n3_ := Aside0.mk (below_step (by repeat (first | (with_reducible first | exact HB.out | apply below_alloc | apply pw_below_drewN | apply below_drew1 | refine blS ?_ GE219.out | refine blS ?_ GE227.out) | exact HB.out)) hb)
                    have n4_ := Aside0.mk (hbox)
                    have n5_ := Aside0.mk ((by rw [hg]; exact (below_size (by repeat (first | (with_reducible first | exact HB.out | apply below_alloc | apply pw_below_drewN | apply below_drew1 | refine blS ?_ GE219.out | refine blS ?_ GE227.out) | exact HB.out))) : w.heap.size ≤ gb244))
                    have n6_ := Aside0.mk ((by rw [hg]; exact (below_size (by repeat (first | (with_reducible first | exact HB.out | apply below_alloc | apply pw_below_drewN | apply below_drew1 | refine blS ?_ GE219.out | refine blS ?_ GE227.out) | exact HB.out))) : w.heap.size ≤ gb244))
                    have n7_ := Aside0.mk ((by rw [hg]; exact Nat.ne_of_lt (blk_lt (g := gb219) (o := .cells #[.int .u8 a1_0, .int .i64 a1_1] 64 (0, 0)) (by (with_reducible repeat (first | refine bkN ?_ _ | refine bkD ?_ | refine bkA ?_ _)); exact BK219.out)) : gb219 ≠ gb244))
                    have n8_ := Aside0.mk ((by rw [hg]; exact Nat.ne_of_gt (blk_lt (g := gb219) (o := .cells #[.int .u8 a1_0, .int .i64 a1_1] 64 (0, 0)) (by (with_reducible repeat (first | refine bkN ?_ _ | refine bkD ?_ | refine bkA ?_ _)); exact BK219.out)) : gb244 ≠ gb219))
                    have n9_ := Aside0.mk ((by rw [hg]; exact Nat.ne_of_lt (blk_lt (g := gb227) (o := .cells #[.int .i64 t221, .int .i64 t222, .int .i64 t223, .int .u32 t224, .int .i64 t225] 66 (0, 0)) (by (with_reducible repeat (first | refine bkN ?_ _ | refine bkD ?_ | refine bkA ?_ _)); exact BK227.out)) : gb227 ≠ gb244))
                    have n10_ := Aside0.mk ((by rw [hg]; exact Nat.ne_of_gt (blk_lt (g := gb227) (o := .cells #[.int .i64 t221, .int .i64 t222, .int .i64 t223, .int .u32 t224, .int .i64 t225] 66 (0, 0)) (by (with_reducible repeat (first | refine bkN ?_ _ | refine bkD ?_ | refine bkA ?_ _)); exact BK227.out)) : gb244 ≠ gb227))
                    clear HO234
                    clear BK219
                    clear BK227
                    clear HB
                    have HO234 := n0_
                    have BK219 := n1_
                    have BK227 := n2_
                    have HB := n3_
                    have BK244 := n4_
                    have GW244 := n5_
                    have GE244 := n6_
                    have NB219_244 := n7_
                    have NB244_219 := n8_
                    have NB227_244 := n9_
                    have NB244_227 := n10_
                    clear n0_ n1_ n2_ n3_ n4_ n5_ n6_ n7_ n8_ n9_ n10_
                    clear hb hbox hg
                    refine hK.out _ _ ⟨(blk_cell BK227.out 0).trans rfl, (blk_cell BK227.out 1).trans rfl, (blk_cell BK227.out 2).trans rfl, (blk_cell BK227.out 3).trans rfl, (blk_cell BK227.out 4).trans rfl, (blk_cell BK219.out 0).trans rfl, (blk_cell BK219.out 1).trans rfl⟩ (fun hHeld => ?_)
                    clear hK K
                    refine norm_ (a' := ?_) ?_ ?_
                    rotate_left
                    ·
                     show Act.put _ (some 9) _ = _
                     simp only [Act.put, List.setIfInBounds_toArray, List.set_cons_zero, List.set_cons_succ, i64_w, i32_w]
                     rfl
                    exact norm_ (by first | (simp only [putAll, Act.put, List.setIfInBounds_toArray, List.set_cons_zero, List.set_cons_succ]; done) | (simp only [putAll, Act.put, List.setIfInBounds_toArray, List.set_cons_zero, List.set_cons_succ]; rfl)) (hJ0_5_13 (v229, v233, gb244) _ ⟨hHeld, (by (with_reducible repeat (first | apply Kd.R_alloc | apply Kd.R_drewN | apply Kd.R_drew)); exact HO234.out), (by (with_reducible repeat (first | refine bkN ?_ _ | refine bkD ?_ | refine bkA ?_ _)); exact BK219.out), (by (with_reducible repeat (first | refine bkN ?_ _ | refine bkD ?_ | refine bkA ?_ _)); exact BK227.out), (by (with_reducible repeat (first | refine bkN ?_ _ | refine bkD ?_ | refine bkA ?_ _)); exact BK244.out), GW244.out, GE244.out, NB219_244.out, NB244_219.out, NB227_244.out, NB244_227.out, (by repeat (first | (with_reducible first | exact HB.out | apply below_alloc | apply pw_below_drewN | apply below_drew1 | refine blS ?_ GE219.out | refine blS ?_ GE227.out | refine blS ?_ GE244.out) | exact HB.out))⟩)
                 ·
                  skip
                  rintro ⟨v229, v233, gb244⟩ w40 ⟨hS_, h0_, h1_, h2_, h3_, h4_, h5_, h6_, h7_, h8_, h9_, h10_⟩
                  have n0_ : Aside0 (Kd.R (Kd.int .u8) 5 w40 w.heap.size (fun _ => True) v233 y232) := ⟨h0_⟩
                  have n1_ : Aside0 (w40.heap[gb219]? = some (.cells #[.int .u8 a1_0, .int .i64 a1_1] 64 (0, 0))) := ⟨h1_⟩
                  have n2_ : Aside0 (w40.heap[gb227]? = some (.cells #[.int .i64 t221, .int .i64 t222, .int .i64 t223, .int .u32 t224, .int .i64 t225] 66 (0, 0))) := ⟨h2_⟩
                  have n3_ : Aside0 (w40.heap[gb244]? = some (.cells #[.int .i64 0, .int .i64 0, .int .i64 0, .int .u32 0, .int .i64 0] 66 (0, 0))) := ⟨h3_⟩
                  have n4_ : Aside0 (w.heap.size ≤ gb244) := ⟨h4_⟩
                  have n5_ : Aside0 (w.heap.size ≤ gb244) := ⟨h5_⟩
                  have n6_ : Aside0 (gb219 ≠ gb244) := ⟨h6_⟩
                  have n7_ : Aside0 (gb244 ≠ gb219) := ⟨h7_⟩
                  have n8_ : Aside0 (gb227 ≠ gb244) := ⟨h8_⟩
                  have n9_ : Aside0 (gb244 ≠ gb227) := ⟨h9_⟩
                  have n10_ : Aside0 (Below w.heap.size w w40) := ⟨h10_⟩
                  clear BK219
                  clear BK227
                  clear HB
                  clear h0_ h1_ h2_ h3_ h4_ h5_ h6_ h7_ h8_ h9_ h10_
                  have HO234 := n0_
                  have BK219 := n1_
                  have BK227 := n2_
                  have BK244 := n3_
                  have GW244 := n4_
                  have GE244 := n5_
                  have NB219_244 := n6_
                  have NB244_219 := n7_
                  have NB227_244 := n8_
                  have NB244_227 := n9_
                  have HB := n10_
                  clear n0_ n1_ n2_ n3_ n4_ n5_ n6_ n7_ n8_ n9_ n10_
                  have hHeld : w40.cell? ⟨gb227, 0, none⟩ = some (.int .i64 t221) ∧ w40.cell? ⟨gb227, 1, none⟩ = some (.int .i64 t222) ∧ w40.cell? ⟨gb227, 2, none⟩ = some (.int .i64 t223) ∧ w40.cell? ⟨gb227, 3, none⟩ = some (.int .u32 t224) ∧ w40.cell? ⟨gb227, 4, none⟩ = some (.int .i64 t225) ∧ w40.cell? ⟨gb219, 0, none⟩ = some (.int .u8 a1_0) ∧ w40.cell? ⟨gb219, 1, none⟩ = some (.int .i64 a1_1) := hS_
                  refine norm_ (a' := ?_) ?_ ?_
                  rotate_left
                  ·
                   simp only [putAll, Act.put, List.setIfInBounds_toArray, List.set_cons_zero, List.set_cons_succ]
                   rfl
                  refine one_ (i := 7) (N := some 55) #[true, true, true, true, true, true, true, true, true, false, false, false, false, true, false, false] rfl rfl (one_of HT_.out (by kernel_rfl)) (by decide) (fun K hK => ?_)
                  refine Kd.R_append_rows_step (Kd.int .u8) (w0 := w) w.heap.size (by rfl) (.tmp 53) (.tmp 54) 62 5 (.int .u8 0) 1 rfl Try.underlying62 info5 rfl (by decide) (by omega) v233 y232 l2 _ _ _ (fun _ => True) (fun _ => False) rfl rfl ?aO ?aR (fun _ _ h => h) (fun _ h => h.elim) ?aF ?aB ?aS ?aL ?_
                  (case aR => repeat (first | exact (Kd.C_below HR2.out HB.out) | (with_reducible refine Kd.C_alloc ?_ _) | (with_reducible refine Kd.C_drewN ?_ _) | (with_reducible refine Kd.C_drew ?_)))
                  (case aB => exact (by repeat (first | (with_reducible first | exact HB.out | apply below_alloc | apply pw_below_drewN | apply below_drew1 | refine blS ?_ GE219.out | refine blS ?_ GE227.out | refine blS ?_ GE244.out) | exact HB.out)))
                  (case aF => exact (fun _ _ => trivial))
                  (case aO => exact (by (with_reducible repeat (first | apply Kd.R_alloc | apply Kd.R_drewN | apply Kd.R_drew)); exact HO234.out))
                  (case aS => exact (below_size (by repeat (first | (with_reducible first | exact HB.out | apply below_alloc | apply pw_below_drewN | apply below_drew1 | refine blS ?_ GE219.out | refine blS ?_ GE227.out | refine blS ?_ GE244.out) | exact HB.out))))
                  (case aL => have := LMc31.out; omega)
                  intro v236 w41 ho hb hg hat
                  rw [← Ny235.out] at ho
                  have n0_ := Aside0.mk (blk_grown (g := gb219) (o := .cells #[.int .u8 a1_0, .int .i64 a1_1] 64 (0, 0)) (by (with_reducible repeat (first | refine bkN ?_ _ | refine bkD ?_ | refine bkA ?_ _)); exact BK219.out) hg (Kd.R_ne HO234.out BK219.out (by decide)))
                  have n1_ := Aside0.mk (blk_grown (g := gb227) (o := .cells #[.int .i64 t221, .int .i64 t222, .int .i64 t223, .int .u32 t224, .int .i64 t225] 66 (0, 0)) (by (with_reducible repeat (first | refine bkN ?_ _ | refine bkD ?_ | refine bkA ?_ _)); exact BK227.out) hg (Kd.R_ne HO234.out BK227.out (by decide)))
                  have n2_ := Aside0.mk (blk_grown (g := gb244) (o := .cells #[.int .i64 0, .int .i64 0, .int .i64 0, .int .u32 0, .int .i64 0] 66 (0, 0)) (by (with_reducible repeat (first | refine bkN ?_ _ | refine bkD ?_ | refine bkA ?_ _)); exact BK244.out) hg (Kd.R_ne HO234.out BK244.out (by decide)))
                  have n3_ := Aside0.mk (hb)
                  have n4_ := Aside0.mk (ho)
                  clear BK219
                  clear BK227
                  clear BK244
                  clear HB
                  clear HO234
                  have BK219 := n0_
                  have BK227 := n1_
                  have BK244 := n2_
                  have HB := n3_
                  have HO237 := n4_
                  clear n0_ n1_ n2_ n3_ n4_
                  clear ho hb hg hat
                  refine hK.out _ _ ⟨(blk_cell BK227.out 0).trans rfl, (blk_cell BK227.out 1).trans rfl, (blk_cell BK227.out 2).trans rfl, (blk_cell BK227.out 3).trans rfl, (blk_cell BK227.out 4).trans rfl, (blk_cell BK219.out 0).trans rfl, (blk_cell BK219.out 1).trans rfl⟩ (fun hHeld => ?_)
                  clear hK K
                  refine norm_ (a' := ?_) ?_ ?_
                  rotate_left
                  ·
                   show Act.put _ (some 55) _ = _
                   simp only [Act.put, List.setIfInBounds_toArray, List.set_cons_zero, List.set_cons_succ, i64_w, i32_w]
                   rfl
                  exact norm_ (by first | (simp only [putAll, Act.put, List.setIfInBounds_toArray, List.set_cons_zero, List.set_cons_succ]; done) | (simp only [putAll, Act.put, List.setIfInBounds_toArray, List.set_cons_zero, List.set_cons_succ]; rfl)) (hJ0_5_7_13 (v229, v233, v236, gb244) _ ⟨hHeld, (by (with_reducible repeat (first | apply Kd.R_alloc | apply Kd.R_drewN | apply Kd.R_drew)); exact HO237.out), (by (with_reducible repeat (first | refine bkN ?_ _ | refine bkD ?_ | refine bkA ?_ _)); exact BK219.out), (by (with_reducible repeat (first | refine bkN ?_ _ | refine bkD ?_ | refine bkA ?_ _)); exact BK227.out), (by (with_reducible repeat (first | refine bkN ?_ _ | refine bkD ?_ | refine bkA ?_ _)); exact BK244.out), GW244.out, GE244.out, NB219_244.out, NB244_219.out, NB227_244.out, NB244_227.out, (by repeat (first | (with_reducible first | exact HB.out | apply below_alloc | apply pw_below_drewN | apply below_drew1 | refine blS ?_ GE219.out | refine blS ?_ GE227.out | refine blS ?_ GE244.out) | exact HB.out))⟩)
                ·
                 skip
                 rintro ⟨v229, v233, v236⟩ w40 ⟨hS_, h0_, h1_, h2_, h3_⟩
                 have n0_ : Aside0 (Kd.R (Kd.int .u8) 5 w40 w.heap.size (fun _ => True) v236 y235) := ⟨h0_⟩
                 have n1_ : Aside0 (w40.heap[gb219]? = some (.cells #[.int .u8 a1_0, .int .i64 a1_1] 64 (0, 0))) := ⟨h1_⟩
                 have n2_ : Aside0 (w40.heap[gb227]? = some (.cells #[.int .i64 t221, .int .i64 t222, .int .i64 t223, .int .u32 t224, .int .i64 t225] 66 (0, 0))) := ⟨h2_⟩
                 have n3_ : Aside0 (Below w.heap.size w w40) := ⟨h3_⟩
                 clear BK219
                 clear BK227
                 clear HB
                 clear h0_ h1_ h2_ h3_
                 have HO237 := n0_
                 have BK219 := n1_
                 have BK227 := n2_
                 have HB := n3_
                 clear n0_ n1_ n2_ n3_
                 have hHeld : w40.cell? ⟨gb227, 0, none⟩ = some (.int .i64 t221) ∧ w40.cell? ⟨gb227, 1, none⟩ = some (.int .i64 t222) ∧ w40.cell? ⟨gb227, 2, none⟩ = some (.int .i64 t223) ∧ w40.cell? ⟨gb227, 3, none⟩ = some (.int .u32 t224) ∧ w40.cell? ⟨gb227, 4, none⟩ = some (.int .i64 t225) ∧ w40.cell? ⟨gb219, 0, none⟩ = some (.int .u8 a1_0) ∧ w40.cell? ⟨gb219, 1, none⟩ = some (.int .i64 a1_1) := hS_
                 obtain ⟨Ao41, co41, eo41⟩ := Kd.R_slice HO237.out
                 (first | subst eo41 | (injection eo41 with f1_ f2_ f3_; have f4_ := f1_.symm; have f5_ := f3_.symm; clear f1_ f2_ f3_; subst f4_; subst f5_))
                 refine norm_ (a' := ?_) ?_ ?_
                 rotate_left
                 ·
                  simp only [putAll, Act.put, List.setIfInBounds_toArray, List.set_cons_zero, List.set_cons_succ]
                  rfl
                 refine two_ (i := 9) (j := 13) (Ni := some 57) (Nj := some 9) #[true, true, true, true, true, true, true, true, true, true, false, false, false, false, false, false] #[true, true, true, true, true, true, true, true, true, false, false, false, false, true, false, false] rfl rfl rfl rfl (two_of HT_.out (by kernel_rfl)) (by decide) (by decide) (fun K hK => ?_) (fun K hK => ?_)
                 ·
                  skip
                  refine goes_ Try.func32 (by kernel_rfl) rfl #[.slice Ao41 y235.length co41, .agg #[.int .u8 a1_0, .int .i64 a1_1]] (by rfl) rfl rfl (by (try simp only [List.map_toArray, List.map_cons, List.map_nil]); first | done | rfl | (simp only [List.length_drop, List.length_take]; rfl)) ?_
                  with_reducible refine (spec_Decode.calls kj12 _ _ y235 a1_0 a1_1 t238 t239 t240 t241 t242 t243 _ ?side1 ?side2 A32.out).mono ?_
                  (case side1 => repeat (first | exact (Kd.R_reads' HO237.out).2.2 | (with_reducible refine Kd.C_alloc ?_ _) | (with_reducible refine Kd.C_drewN ?_ _) | (with_reducible refine Kd.C_drew ?_)))
                  (case side2 => exact (Kd.R_reads' HO237.out).2.1)
                  rintro e w42 ⟨rfl, hb⟩
                  refine ⟨_, rfl, ?_⟩
                  have n0_ := Aside0.mk (Kd.R_below (by (with_reducible repeat (first | apply Kd.R_alloc | apply Kd.R_drewN | apply Kd.R_drew)); exact HO237.out) hb)
                  have n1_ := Aside0.mk (blk_below (g := gb219) (o := .cells #[.int .u8 a1_0, .int .i64 a1_1] 64 (0, 0)) (by (with_reducible repeat (first | refine bkN ?_ _ | refine bkD ?_ | refine bkA ?_ _)); exact BK219.out) hb)
                  have n2_ := Aside0.mk (blk_below (g := gb227) (o := .cells #[.int .i64 t221, .int .i64 t222, .int .i64 t223, .int .u32 t224, .int .i64 t225] 66 (0, 0)) (by (with_reducible repeat (first | refine bkN ?_ _ | refine bkD ?_ | refine bkA ?_ _)); exact BK227.out) hb)
                  have n3_ := Aside0.mk (below_step (by repeat (first | (with_reducible first | exact HB.out | apply below_alloc | apply pw_below_drewN | apply below_drew1 | refine blS ?_ GE219.out | refine blS ?_ GE227.out) | exact HB.out)) hb)
                  clear HO237
                  clear BK219
                  clear BK227
                  clear HB
                  have HO237 := n0_
                  have BK219 := n1_
                  have BK227 := n2_
                  have HB := n3_
                  clear n0_ n1_ n2_ n3_
                  (try clear hb)
                  (try clear hb2)
                  (try clear hk)
                  (try clear hi)
                  refine hK.out _ _ ⟨(blk_cell BK227.out 0).trans rfl, (blk_cell BK227.out 1).trans rfl, (blk_cell BK227.out 2).trans rfl, (blk_cell BK227.out 3).trans rfl, (blk_cell BK227.out 4).trans rfl, (blk_cell BK219.out 0).trans rfl, (blk_cell BK219.out 1).trans rfl⟩ (fun hHeld => ?_)
                  clear hK K
                  refine norm_ (a' := ?_) ?_ ?_
                  rotate_left
                  ·
                   show Act.put _ (some 57) _ = _
                   simp only [Act.put, List.setIfInBounds_toArray, List.set_cons_zero, List.set_cons_succ, i64_w, i32_w]
                   rfl
                  refine pure_ (i := 10) (N := some 47) (v := ?_) (a' := ?_) #[true, true, true, true, true, true, true, true, true, true, true, false, false, false, false, false] rfl rfl (any_of HT_.out (by kernel_rfl)) (fun _ _ _ h => h) (Or.inl ⟨by rfl, ?_⟩) ?_ ?_
                  rotate_left
                  ·
                   intro w'
                   go_simp
                   with_reducible rfl
                  rotate_left
                  ·
                   simp only [Act.put, List.setIfInBounds_toArray, List.set_cons_zero, List.set_cons_succ, i64_w, i32_w]
                   rfl
                  refine pure_ (i := 11) (N := some 58) (v := ?_) (a' := ?_) #[true, true, true, true, true, true, true, true, true, true, true, true, false, false, false, false] rfl rfl (any_of HT_.out (by kernel_rfl)) (fun _ _ _ h => h) (Or.inl ⟨by rfl, ?_⟩) ?_ ?_
                  rotate_left
                  ·
                   intro w'
                   go_simp
                   with_reducible rfl
                  rotate_left
                  ·
                   simp only [Act.put, List.setIfInBounds_toArray, List.set_cons_zero, List.set_cons_succ, i64_w, i32_w]
                   rfl
                  refine pure_ (i := 12) (N := some 59) (v := ?_) (a' := ?_) #[true, true, true, true, true, true, true, true, true, true, true, true, true, false, false, false] rfl rfl (any_of HT_.out (by kernel_rfl)) (fun _ _ _ h => h) (Or.inl ⟨by rfl, ?_⟩) ?_ ?_
                  rotate_left
                  ·
                   intro w'
                   go_simp
                   with_reducible rfl
                  rotate_left
                  ·
                   simp only [Act.put, List.setIfInBounds_toArray, List.set_cons_zero, List.set_cons_succ, i64_w, i32_w]
                   rfl
                  exact norm_ (by first | (simp only [putAll, Act.put, List.setIfInBounds_toArray, List.set_cons_zero, List.set_cons_succ]; done) | (simp only [putAll, Act.put, List.setIfInBounds_toArray, List.set_cons_zero, List.set_cons_succ]; rfl)) (hJ0_5_7_9 (v229, v233, .slice Ao41 y235.length co41) _ ⟨hHeld, (by (with_reducible repeat (first | apply Kd.R_alloc | apply Kd.R_drewN | apply Kd.R_drew)); exact HO237.out), (by (with_reducible repeat (first | refine bkN ?_ _ | refine bkD ?_ | refine bkA ?_ _)); exact BK219.out), (by (with_reducible repeat (first | refine bkN ?_ _ | refine bkD ?_ | refine bkA ?_ _)); exact BK227.out), (by repeat (first | (with_reducible first | exact HB.out | apply below_alloc | apply pw_below_drewN | apply below_drew1 | refine blS ?_ GE219.out | refine blS ?_ GE227.out) | exact HB.out))⟩)
                 ·
                  skip
                  refine box_step ?hg (N := 9) ?hd (cs := #[.int .i64 0, .int .i64 0, .int .i64 0, .int .u32 0, .int .i64 0]) (t := 66) ?hr ?_; (case hd => rfl); (case hg => rfl); (case hr => first | (go_simp; done) | (go_simp; rfl))
                  intro gb244 hg w41 hbox hb
                  have n0_ := Aside0.mk (Kd.R_below (by (with_reducible repeat (first | apply Kd.R_alloc | apply Kd.R_drewN | apply Kd.R_drew)); exact HO237.out) hb)
                  have n1_ := Aside0.mk (blk_below (g := gb219) (o := .cells #[.int .u8 a1_0, .int .i64 a1_1] 64 (0, 0)) (by (with_reducible repeat (first | refine bkN ?_ _ | refine bkD ?_ | refine bkA ?_ _)); exact BK219.out) hb)
                  have n2_ := Aside0.mk (blk_below (g := gb227) (o := .cells #[.int .i64 t221, .int .i64 t222, .int .i64 t223, .int .u32 t224, .int .i64 t225] 66 (0, 0)) (by (with_reducible repeat (first | refine bkN ?_ _ | refine bkD ?_ | refine bkA ?_ _)); exact BK227.out) hb)
                  have n3_ := Aside0.mk (below_step (by repeat (first | (with_reducible first | exact HB.out | apply below_alloc | apply pw_below_drewN | apply below_drew1 | refine blS ?_ GE219.out | refine blS ?_ GE227.out) | exact HB.out)) hb)
                  have n4_ := Aside0.mk (hbox)
                  have n5_ := Aside0.mk ((by rw [hg]; exact (below_size (by repeat (first | (with_reducible first | exact HB.out | apply below_alloc | apply pw_below_drewN | apply below_drew1 | refine blS ?_ GE219.out | refine blS ?_ GE227.out) | exact HB.out))) : w.heap.size ≤ gb244))
                  have n6_ := Aside0.mk ((by rw [hg]; exact (below_size (by repeat (first | (with_reducible first | exact HB.out | apply below_alloc | apply pw_below_drewN | apply below_drew1 | refine blS ?_ GE219.out | refine blS ?_ GE227.out) | exact HB.out))) : w.heap.size ≤ gb244))
                  have n7_ := Aside0.mk ((by rw [hg]; exact Nat.ne_of_lt (blk_lt (g := gb219) (o := .cells #[.int .u8 a1_0, .int .i64 a1_1] 64 (0, 0)) (by (with_reducible repeat (first | refine bkN ?_ _ | refine bkD ?_ | refine bkA ?_ _)); exact BK219.out)) : gb219 ≠ gb244))
                  have n8_ := Aside0.mk ((by rw [hg]; exact Nat.ne_of_gt (blk_lt (g := gb219) (o := .cells #[.int .u8 a1_0, .int .i64 a1_1] 64 (0, 0)) (by (with_reducible repeat (first | refine bkN ?_ _ | refine bkD ?_ | refine bkA ?_ _)); exact BK219.out)) : gb244 ≠ gb219))
                  have n9_ := Aside0.mk ((by rw [hg]; exact Nat.ne_of_lt (blk_lt (g := gb227) (o := .cells #[.int .i64 t221, .int .i64 t222, .int .i64 t223, .int .u32 t224, .int .i64 t225] 66 (0, 0)) (by (with_reducible repeat (first | refine bkN ?_ _ | refine bkD ?_ | refine bkA ?_ _)); exact BK227.out)) : gb227 ≠ gb244))
                  have n10_ := Aside0.mk ((by rw [hg]; exact Nat.ne_of_gt (blk_lt (g := gb227) (o := .cells #[.int .i64 t221, .int .i64 t222, .int .i64 t223, .int .u32 t224, .int .i64 t225] 66 (0, 0)) (by (with_reducible repeat (first | refine bkN ?_ _ | refine bkD ?_ | refine bkA ?_ _)); exact BK227.out)) : gb244 ≠ gb227))
                  clear HO237
                  clear BK219
                  clear BK227
                  clear HB
                  have HO237 := n0_
                  have BK219 := n1_
                  have BK227 := n2_
                  have HB := n3_
                  have BK244 := n4_
                  have GW244 := n5_
                  have GE244 := n6_
                  have NB219_244 := n7_
                  have NB244_219 := n8_
                  have NB227_244 := n9_
                  have NB244_227 := n10_
                  clear n0_ n1_ n2_ n3_ n4_ n5_ n6_ n7_ n8_ n9_ n10_
                  clear hb hbox hg
                  refine hK.out _ _ ⟨(blk_cell BK227.out 0).trans rfl, (blk_cell BK227.out 1).trans rfl, (blk_cell BK227.out 2).trans rfl, (blk_cell BK227.out 3).trans rfl, (blk_cell BK227.out 4).trans rfl, (blk_cell BK219.out 0).trans rfl, (blk_cell BK219.out 1).trans rfl⟩ (fun hHeld => ?_)
                  clear hK K
                  refine norm_ (a' := ?_) ?_ ?_
                  rotate_left
                  ·
                   show Act.put _ (some 9) _ = _
                   simp only [Act.put, List.setIfInBounds_toArray, List.set_cons_zero, List.set_cons_succ, i64_w, i32_w]
                   rfl
                  exact norm_ (by first | (simp only [putAll, Act.put, List.setIfInBounds_toArray, List.set_cons_zero, List.set_cons_succ]; done) | (simp only [putAll, Act.put, List.setIfInBounds_toArray, List.set_cons_zero, List.set_cons_succ]; rfl)) (hJ0_5_7_13 (v229, v233, .slice Ao41 y235.length co41, gb244) _ ⟨hHeld, (by (with_reducible repeat (first | apply Kd.R_alloc | apply Kd.R_drewN | apply Kd.R_drew)); exact HO237.out), (by (with_reducible repeat (first | refine bkN ?_ _ | refine bkD ?_ | refine bkA ?_ _)); exact BK219.out), (by (with_reducible repeat (first | refine bkN ?_ _ | refine bkD ?_ | refine bkA ?_ _)); exact BK227.out), (by (with_reducible repeat (first | refine bkN ?_ _ | refine bkD ?_ | refine bkA ?_ _)); exact BK244.out), GW244.out, GE244.out, NB219_244.out, NB244_219.out, NB227_244.out, NB244_227.out, (by repeat (first | (with_reducible first | exact HB.out | apply below_alloc | apply pw_below_drewN | apply below_drew1 | refine blS ?_ GE219.out | refine blS ?_ GE227.out | refine blS ?_ GE244.out) | exact HB.out))⟩)
               ·
                skip
                rintro ⟨v229, v233, v236, gb244⟩ w41 ⟨hS_, h0_, h1_, h2_, h3_, h4_, h5_, h6_, h7_, h8_, h9_, h10_⟩
                have n0_ : Aside0 (Kd.R (Kd.int .u8) 5 w41 w.heap.size (fun _ => True) v236 y235) := ⟨h0_⟩
                have n1_ : Aside0 (w41.heap[gb219]? = some (.cells #[.int .u8 a1_0, .int .i64 a1_1] 64 (0, 0))) := ⟨h1_⟩
                have n2_ : Aside0 (w41.heap[gb227]? = some (.cells #[.int .i64 t221, .int .i64 t222, .int .i64 t223, .int .u32 t224, .int .i64 t225] 66 (0, 0))) := ⟨h2_⟩
                have n3_ : Aside0 (w41.heap[gb244]? = some (.cells #[.int .i64 0, .int .i64 0, .int .i64 0, .int .u32 0, .int .i64 0] 66 (0, 0))) := ⟨h3_⟩
                have n4_ : Aside0 (w.heap.size ≤ gb244) := ⟨h4_⟩
                have n5_ : Aside0 (w.heap.size ≤ gb244) := ⟨h5_⟩
                have n6_ : Aside0 (gb219 ≠ gb244) := ⟨h6_⟩
                have n7_ : Aside0 (gb244 ≠ gb219) := ⟨h7_⟩
                have n8_ : Aside0 (gb227 ≠ gb244) := ⟨h8_⟩
                have n9_ : Aside0 (gb244 ≠ gb227) := ⟨h9_⟩
                have n10_ : Aside0 (Below w.heap.size w w41) := ⟨h10_⟩
                clear BK219
                clear BK227
                clear HB
                clear h0_ h1_ h2_ h3_ h4_ h5_ h6_ h7_ h8_ h9_ h10_
                have HO237 := n0_
                have BK219 := n1_
                have BK227 := n2_
                have BK244 := n3_
                have GW244 := n4_
                have GE244 := n5_
                have NB219_244 := n6_
                have NB244_219 := n7_
                have NB227_244 := n8_
                have NB244_227 := n9_
                have HB := n10_
                clear n0_ n1_ n2_ n3_ n4_ n5_ n6_ n7_ n8_ n9_ n10_
                have hHeld : w41.cell? ⟨gb227, 0, none⟩ = some (.int .i64 t221) ∧ w41.cell? ⟨gb227, 1, none⟩ = some (.int .i64 t222) ∧ w41.cell? ⟨gb227, 2, none⟩ = some (.int .i64 t223) ∧ w41.cell? ⟨gb227, 3, none⟩ = some (.int .u32 t224) ∧ w41.cell? ⟨gb227, 4, none⟩ = some (.int .i64 t225) ∧ w41.cell? ⟨gb219, 0, none⟩ = some (.int .u8 a1_0) ∧ w41.cell? ⟨gb219, 1, none⟩ = some (.int .i64 a1_1) := hS_
                obtain ⟨Ao42, co42, eo42⟩ := Kd.R_slice HO237.out
                (first | subst eo42 | (injection eo42 with f1_ f2_ f3_; have f4_ := f1_.symm; have f5_ := f3_.symm; clear f1_ f2_ f3_; subst f4_; subst f5_))
                refine norm_ (a' := ?_) ?_ ?_
                rotate_left
                ·
                 simp only [putAll, Act.put, List.setIfInBounds_toArray, List.set_cons_zero, List.set_cons_succ]
                 rfl
                refine one_ (i := 9) (N := some 57) #[true, true, true, true, true, true, true, true, true, true, false, false, false, true, false, false] rfl rfl (one_of HT_.out (by kernel_rfl)) (by decide) (fun K hK => ?_)
                refine goes_ Try.func32 (by kernel_rfl) rfl #[.slice Ao42 y235.length co42, .agg #[.int .u8 a1_0, .int .i64 a1_1]] (by rfl) rfl rfl (by (try simp only [List.map_toArray, List.map_cons, List.map_nil]); first | done | rfl | (simp only [List.length_drop, List.length_take]; rfl)) ?_
                with_reducible refine (spec_Decode.calls kj12 _ _ y235 a1_0 a1_1 t238 t239 t240 t241 t242 t243 _ ?side1 ?side2 A32.out).mono ?_
                (case side1 => repeat (first | exact (Kd.R_reads' HO237.out).2.2 | (with_reducible refine Kd.C_alloc ?_ _) | (with_reducible refine Kd.C_drewN ?_ _) | (with_reducible refine Kd.C_drew ?_)))
                (case side2 => exact (Kd.R_reads' HO237.out).2.1)
                rintro e w43 ⟨rfl, hb⟩
                refine ⟨_, rfl, ?_⟩
                have n0_ := Aside0.mk (Kd.R_below (by (with_reducible repeat (first | apply Kd.R_alloc | apply Kd.R_drewN | apply Kd.R_drew)); exact HO237.out) hb)
                have n1_ := Aside0.mk (blk_below (g := gb219) (o := .cells #[.int .u8 a1_0, .int .i64 a1_1] 64 (0, 0)) (by (with_reducible repeat (first | refine bkN ?_ _ | refine bkD ?_ | refine bkA ?_ _)); exact BK219.out) hb)
                have n2_ := Aside0.mk (blk_below (g := gb227) (o := .cells #[.int .i64 t221, .int .i64 t222, .int .i64 t223, .int .u32 t224, .int .i64 t225] 66 (0, 0)) (by (with_reducible repeat (first | refine bkN ?_ _ | refine bkD ?_ | refine bkA ?_ _)); exact BK227.out) hb)
                have n3_ := Aside0.mk (blk_below (g := gb244) (o := .cells #[.int .i64 0, .int .i64 0, .int .i64 0, .int .u32 0, .int .i64 0] 66 (0, 0)) (by (with_reducible repeat (first | refine bkN ?_ _ | refine bkD ?_ | refine bkA ?_ _)); exact BK244.out) hb)
                have n4_ := Aside0.mk (below_step (by repeat (first | (with_reducible first | exact HB.out | apply below_alloc | apply pw_below_drewN | apply below_drew1 | refine blS ?_ GE219.out | refine blS ?_ GE227.out | refine blS ?_ GE244.out) | exact HB.out)) hb)
                clear HO237
                clear BK219
                clear BK227
                clear BK244
                clear HB
                have HO237 := n0_
                have BK219 := n1_
                have BK227 := n2_
                have BK244 := n3_
                have HB := n4_
                clear n0_ n1_ n2_ n3_ n4_
                (try clear hb)
                (try clear hb2)
                (try clear hk)
                (try clear hi)
                refine hK.out _ _ ⟨(blk_cell BK227.out 0).trans rfl, (blk_cell BK227.out 1).trans rfl, (blk_cell BK227.out 2).trans rfl, (blk_cell BK227.out 3).trans rfl, (blk_cell BK227.out 4).trans rfl, (blk_cell BK219.out 0).trans rfl, (blk_cell BK219.out 1).trans rfl⟩ (fun hHeld => ?_)
                clear hK K
                refine norm_ (a' := ?_) ?_ ?_
                rotate_left
                ·
                 show Act.put _ (some 57) _ = _
                 simp only [Act.put, List.setIfInBounds_toArray, List.set_cons_zero, List.set_cons_succ, i64_w, i32_w]
                 rfl
                refine pure_ (i := 10) (N := some 47) (v := ?_) (a' := ?_) #[true, true, true, true, true, true, true, true, true, true, true, false, false, true, false, false] rfl rfl (any_of HT_.out (by kernel_rfl)) (fun _ _ _ h => h) (Or.inl ⟨by rfl, ?_⟩) ?_ ?_
                rotate_left
                ·
                 intro w'
                 go_simp
                 with_reducible rfl
                rotate_left
                ·
                 simp only [Act.put, List.setIfInBounds_toArray, List.set_cons_zero, List.set_cons_succ, i64_w, i32_w]
                 rfl
                refine pure_ (i := 11) (N := some 58) (v := ?_) (a' := ?_) #[true, true, true, true, true, true, true, true, true, true, true, true, false, true, false, false] rfl rfl (any_of HT_.out (by kernel_rfl)) (fun _ _ _ h => h) (Or.inl ⟨by rfl, ?_⟩) ?_ ?_
                rotate_left
                ·
                 intro w'
                 go_simp
                 with_reducible rfl
                rotate_left
                ·
                 simp only [Act.put, List.setIfInBounds_toArray, List.set_cons_zero, List.set_cons_succ, i64_w, i32_w]
                 rfl
                refine pure_ (i := 12) (N := some 59) (v := ?_) (a' := ?_) #[true, true, true, true, true, true, true, true, true, true, true, true, true, true, false, false] rfl rfl (any_of HT_.out (by kernel_rfl)) (fun _ _ _ h => h) (Or.inl ⟨by rfl, ?_⟩) ?_ ?_
                rotate_left
                ·
                 intro w'
                 go_simp
                 with_reducible rfl
                rotate_left
                ·
                 simp only [Act.put, List.setIfInBounds_toArray, List.set_cons_zero, List.set_cons_succ, i64_w, i32_w]
                 rfl
                exact norm_ (by first | (simp only [putAll, Act.put, List.setIfInBounds_toArray, List.set_cons_zero, List.set_cons_succ]; done) | (simp only [putAll, Act.put, List.setIfInBounds_toArray, List.set_cons_zero, List.set_cons_succ]; rfl)) (hJ0_5_7_9_13 (v229, v233, .slice Ao42 y235.length co42, gb244) _ ⟨hHeld, (by (with_reducible repeat (first | apply Kd.R_alloc | apply Kd.R_drewN | apply Kd.R_drew)); exact HO237.out), (by (with_reducible repeat (first | refine bkN ?_ _ | refine bkD ?_ | refine bkA ?_ _)); exact BK219.out), (by (with_reducible repeat (first | refine bkN ?_ _ | refine bkD ?_ | refine bkA ?_ _)); exact BK227.out), (by (with_reducible repeat (first | refine bkN ?_ _ | refine bkD ?_ | refine bkA ?_ _)); exact BK244.out), GW244.out, GE244.out, NB219_244.out, NB244_219.out, NB227_244.out, NB244_227.out, (by repeat (first | (with_reducible first | exact HB.out | apply below_alloc | apply pw_below_drewN | apply below_drew1 | refine blS ?_ GE219.out | refine blS ?_ GE227.out | refine blS ?_ GE244.out) | exact HB.out))⟩)
              ·
               skip
               rintro ⟨v229, v233, v236⟩ w42 ⟨hS_, h0_, h1_, h2_, h3_⟩
               have n0_ : Aside0 (Kd.R (Kd.int .u8) 5 w42 w.heap.size (fun _ => True) v236 y235) := ⟨h0_⟩
               have n1_ : Aside0 (w42.heap[gb219]? = some (.cells #[.int .u8 a1_0, .int .i64 a1_1] 64 (0, 0))) := ⟨h1_⟩
               have n2_ : Aside0 (w42.heap[gb227]? = some (.cells #[.int .i64 t221, .int .i64 t222, .int .i64 t223, .int .u32 t224, .int .i64 t225] 66 (0, 0))) := ⟨h2_⟩
               have n3_ : Aside0 (Below w.heap.size w w42) := ⟨h3_⟩
               clear BK219
               clear BK227
               clear HB
               clear h0_ h1_ h2_ h3_
               have HO237 := n0_
               have BK219 := n1_
               have BK227 := n2_
               have HB := n3_
               clear n0_ n1_ n2_ n3_
               have hHeld : w42.cell? ⟨gb227, 0, none⟩ = some (.int .i64 t221) ∧ w42.cell? ⟨gb227, 1, none⟩ = some (.int .i64 t222) ∧ w42.cell? ⟨gb227, 2, none⟩ = some (.int .i64 t223) ∧ w42.cell? ⟨gb227, 3, none⟩ = some (.int .u32 t224) ∧ w42.cell? ⟨gb227, 4, none⟩ = some (.int .i64 t225) ∧ w42.cell? ⟨gb219, 0, none⟩ = some (.int .u8 a1_0) ∧ w42.cell? ⟨gb219, 1, none⟩ = some (.int .i64 a1_1) := hS_
               refine norm_ (a' := ?_) ?_ ?_
               rotate_left
               ·
                simp only [putAll, Act.put, List.setIfInBounds_toArray, List.set_cons_zero, List.set_cons_succ]
                rfl
               refine one_ (i := 13) (N := some 9) #[true, true, true, true, true, true, true, true, true, true, true, true, true, true, false, false] rfl rfl (one_of HT_.out (by kernel_rfl)) (by decide) (fun K hK => ?_)
               refine box_step ?hg (N := 9) ?hd (cs := #[.int .i64 0, .int .i64 0, .int .i64 0, .int .u32 0, .int .i64 0]) (t := 66) ?hr ?_; (case hd => rfl); (case hg => rfl); (case hr => first | (go_simp; done) | (go_simp; rfl))
               intro gb244 hg w43 hbox hb
               have n0_ := Aside0.mk (Kd.R_below (by (with_reducible repeat (first | apply Kd.R_alloc | apply Kd.R_drewN | apply Kd.R_drew)); exact HO237.out) hb)
               have n1_ := Aside0.mk (blk_below (g := gb219) (o := .cells #[.int .u8 a1_0, .int .i64 a1_1] 64 (0, 0)) (by (with_reducible repeat (first | refine bkN ?_ _ | refine bkD ?_ | refine bkA ?_ _)); exact BK219.out) hb)
               have n2_ := Aside0.mk (blk_below (g := gb227) (o := .cells #[.int .i64 t221, .int .i64 t222, .int .i64 t223, .int .u32 t224, .int .i64 t225] 66 (0, 0)) (by (with_reducible repeat (first | refine bkN ?_ _ | refine bkD ?_ | refine bkA ?_ _)); exact BK227.out) hb)
               have n3_ := Aside0.mk (below_step (by repeat (first | (with_reducible first | exact HB.out | apply below_alloc | apply pw_below_drewN | apply below_drew1 | refine blS ?_ GE219.out | refine blS ?_ GE227.out) | exact HB.out)) hb)
               have n4_ := Aside0.mk (hbox)
               have n5_ := Aside0.mk ((by rw [hg]; exact (below_size (by repeat (first | (with_reducible first | exact HB.out | apply below_alloc | apply pw_below_drewN | apply below_drew1 | refine blS ?_ GE219.out | refine blS ?_ GE227.out) | exact HB.out))) : w.heap.size ≤ gb244))
               have n6_ := Aside0.mk ((by rw [hg]; exact (below_size (by repeat (first | (with_reducible first | exact HB.out | apply below_alloc | apply pw_below_drewN | apply below_drew1 | refine blS ?_ GE219.out | refine blS ?_ GE227.out) | exact HB.out))) : w.heap.size ≤ gb244))
               have n7_ := Aside0.mk ((by rw [hg]; exact Nat.ne_of_lt (blk_lt (g := gb219) (o := .cells #[.int .u8 a1_0, .int .i64 a1_1] 64 (0, 0)) (by (with_reducible repeat (first | refine bkN ?_ _ | refine bkD ?_ | refine bkA ?_ _)); exact BK219.out)) : gb219 ≠ gb244))
               have n8_ := Aside0.mk ((by rw [hg]; exact Nat.ne_of_gt (blk_lt (g := gb219) (o := .cells #[.int .u8 a1_0, .int .i64 a1_1] 64 (0, 0)) (by (with_reducible repeat (first | refine bkN ?_ _ | refine bkD ?_ | refine bkA ?_ _)); exact BK219.out)) : gb244 ≠ gb219))
               have n9_ := Aside0.mk ((by rw [hg]; exact Nat.ne_of_lt (blk_lt (g := gb227) (o := .cells #[.int .i64 t221, .int .i64 t222, .int .i64 t223, .int .u32 t224, .int .i64 t225] 66 (0, 0)) (by (with_reducible repeat (first | refine bkN ?_ _ | refine bkD ?_ | refine bkA ?_ _)); exact BK227.out)) : gb227 ≠ gb244))
               have n10_ := Aside0.mk ((by rw [hg]; exact Nat.ne_of_gt (blk_lt (g := gb227) (o := .cells #[.int .i64 t221, .int .i64 t222, .int .i64 t223, .int .u32 t224, .int .i64 t225] 66 (0, 0)) (by (with_reducible repeat (first | refine bkN ?_ _ | refine bkD ?_ | refine bkA ?_ _)); exact BK227.out)) : gb244 ≠ gb227))
               clear HO237
               clear BK219
               clear BK227
               clear HB
               have HO237 := n0_
               have BK219 := n1_
               have BK227 := n2_
               have HB := n3_
               have BK244 := n4_
               have GW244 := n5_
               have GE244 := n6_
               have NB219_244 := n7_
               have NB244_219 := n8_
               have NB227_244 := n9_
               have NB244_227 := n10_
               clear n0_ n1_ n2_ n3_ n4_ n5_ n6_ n7_ n8_ n9_ n10_
               clear hb hbox hg
               refine hK.out _ _ ⟨(blk_cell BK227.out 0).trans rfl, (blk_cell BK227.out 1).trans rfl, (blk_cell BK227.out 2).trans rfl, (blk_cell BK227.out 3).trans rfl, (blk_cell BK227.out 4).trans rfl, (blk_cell BK219.out 0).trans rfl, (blk_cell BK219.out 1).trans rfl⟩ (fun hHeld => ?_)
               clear hK K
               refine norm_ (a' := ?_) ?_ ?_
               rotate_left
               ·
                show Act.put _ (some 9) _ = _
                simp only [Act.put, List.setIfInBounds_toArray, List.set_cons_zero, List.set_cons_succ, i64_w, i32_w]
                rfl
               exact norm_ (by first | (simp only [putAll, Act.put, List.setIfInBounds_toArray, List.set_cons_zero, List.set_cons_succ]; done) | (simp only [putAll, Act.put, List.setIfInBounds_toArray, List.set_cons_zero, List.set_cons_succ]; rfl)) (hJ0_5_7_9_13 (v229, v233, v236, gb244) _ ⟨hHeld, (by (with_reducible repeat (first | apply Kd.R_alloc | apply Kd.R_drewN | apply Kd.R_drew)); exact HO237.out), (by (with_reducible repeat (first | refine bkN ?_ _ | refine bkD ?_ | refine bkA ?_ _)); exact BK219.out), (by (with_reducible repeat (first | refine bkN ?_ _ | refine bkD ?_ | refine bkA ?_ _)); exact BK227.out), (by (with_reducible repeat (first | refine bkN ?_ _ | refine bkD ?_ | refine bkA ?_ _)); exact BK244.out), GW244.out, GE244.out, NB219_244.out, NB244_219.out, NB227_244.out, NB244_227.out, (by repeat (first | (with_reducible first | exact HB.out | apply below_alloc | apply pw_below_drewN | apply below_drew1 | refine blS ?_ GE219.out | refine blS ?_ GE227.out | refine blS ?_ GE244.out) | exact HB.out))⟩)
             rintro ⟨v229, v233, v236, gb244⟩ w43 ⟨hS_, h0_, h1_, h2_, h3_, h4_, h5_, h6_, h7_, h8_, h9_, h10_⟩
             have n0_ : Aside0 (Kd.R (Kd.int .u8) 5 w43 w.heap.size (fun _ => True) v236 y235) := ⟨h0_⟩
             have n1_ : Aside0 (w43.heap[gb219]? = some (.cells #[.int .u8 a1_0, .int .i64 a1_1] 64 (0, 0))) := ⟨h1_⟩
             have n2_ : Aside0 (w43.heap[gb227]? = some (.cells #[.int .i64 t221, .int .i64 t222, .int .i64 t223, .int .u32 t224, .int .i64 t225] 66 (0, 0))) := ⟨h2_⟩
             have n3_ : Aside0 (w43.heap[gb244]? = some (.cells #[.int .i64 0, .int .i64 0, .int .i64 0, .int .u32 0, .int .i64 0] 66 (0, 0))) := ⟨h3_⟩
             have n4_ : Aside0 (w.heap.size ≤ gb244) := ⟨h4_⟩
             have n5_ : Aside0 (w.heap.size ≤ gb244) := ⟨h5_⟩
             have n6_ : Aside0 (gb219 ≠ gb244) := ⟨h6_⟩
             have n7_ : Aside0 (gb244 ≠ gb219) := ⟨h7_⟩
             have n8_ : Aside0 (gb227 ≠ gb244) := ⟨h8_⟩
             have n9_ : Aside0 (gb244 ≠ gb227) := ⟨h9_⟩
             have n10_ : Aside0 (Below w.heap.size w w43) := ⟨h10_⟩
             clear BK219
             clear BK227
             clear HB
             clear h0_ h1_ h2_ h3_ h4_ h5_ h6_ h7_ h8_ h9_ h10_
             have HO237 := n0_
             have BK219 := n1_
             have BK227 := n2_
             have BK244 := n3_
             have GW244 := n4_
             have GE244 := n5_
             have NB219_244 := n6_
             have NB244_219 := n7_
             have NB227_244 := n8_
             have NB244_227 := n9_
             have HB := n10_
             clear n0_ n1_ n2_ n3_ n4_ n5_ n6_ n7_ n8_ n9_ n10_
             have hHeld : w43.cell? ⟨gb227, 0, none⟩ = some (.int .i64 t221) ∧ w43.cell? ⟨gb227, 1, none⟩ = some (.int .i64 t222) ∧ w43.cell? ⟨gb227, 2, none⟩ = some (.int .i64 t223) ∧ w43.cell? ⟨gb227, 3, none⟩ = some (.int .u32 t224) ∧ w43.cell? ⟨gb227, 4, none⟩ = some (.int .i64 t225) ∧ w43.cell? ⟨gb219, 0, none⟩ = some (.int .u8 a1_0) ∧ w43.cell? ⟨gb219, 1, none⟩ = some (.int .i64 a1_1) := hS_
             refine norm_ (a' := ?_) ?_ ?_
             rotate_left
             ·
              simp only [putAll, Act.put, List.setIfInBounds_toArray, List.set_cons_zero, List.set_cons_succ]
              rfl
             refine one_ (i := 14) (N := none) #[true, true, true, true, true, true, true, true, true, true, true, true, true, true, true, false] rfl rfl (one_of HT_.out (by kernel_rfl)) (by decide) (fun K hK => ?_)
             have hs44 : w43.cell? ⟨gb244, 0, none⟩ = some (.int .i64 0) := (blk_cell BK244.out 0).trans rfl
             have hfs44 := blk_frozen BK244.out 0
             have hns44_0 := NB219_244.out
             have hns44_1 := NB227_244.out
             have hms44_0 := NB244_219.out
             have hms44_1 := NB244_227.out
             have hs45 : w43.cell? ⟨gb244, 1, none⟩ = some (.int .i64 0) := (blk_cell BK244.out 1).trans rfl
             have hfs45 := blk_frozen BK244.out 1
             have hns45_0 := NB219_244.out
             have hns45_1 := NB227_244.out
             have hms45_0 := NB244_219.out
             have hms45_1 := NB244_227.out
             have hs46 : w43.cell? ⟨gb244, 2, none⟩ = some (.int .i64 0) := (blk_cell BK244.out 2).trans rfl
             have hfs46 := blk_frozen BK244.out 2
             have hns46_0 := NB219_244.out
             have hns46_1 := NB227_244.out
             have hms46_0 := NB244_219.out
             have hms46_1 := NB244_227.out
             have hs47 : w43.cell? ⟨gb244, 3, none⟩ = some (.int .u32 0) := (blk_cell BK244.out 3).trans rfl
             have hfs47 := blk_frozen BK244.out 3
             have hns47_0 := NB219_244.out
             have hns47_1 := NB227_244.out
             have hms47_0 := NB244_219.out
             have hms47_1 := NB244_227.out
             have hs48 : w43.cell? ⟨gb244, 4, none⟩ = some (.int .i64 0) := (blk_cell BK244.out 4).trans rfl
             have hfs48 := blk_frozen BK244.out 4
             have hns48_0 := NB219_244.out
             have hns48_1 := NB227_244.out
             have hms48_0 := NB244_219.out
             have hms48_1 := NB244_227.out
             refine skip_ (w1 := ?_) (by rfl) rfl ?_ ?_
             rotate_left
             ·
              go_simp
              rfl
             refine hK.out _ _ ⟨((cell_far (p := ⟨gb244, _, none⟩) NB227_244.out _).trans (((cell_far (p := ⟨gb244, _, none⟩) NB227_244.out _).trans (((cell_far (p := ⟨gb244, _, none⟩) NB227_244.out _).trans (((cell_far (p := ⟨gb244, _, none⟩) NB227_244.out _).trans (((cell_far (p := ⟨gb244, _, none⟩) NB227_244.out _).trans (hHeld.1)))))))))), ((cell_far (p := ⟨gb244, _, none⟩) NB227_244.out _).trans (((cell_far (p := ⟨gb244, _, none⟩) NB227_244.out _).trans (((cell_far (p := ⟨gb244, _, none⟩) NB227_244.out _).trans (((cell_far (p := ⟨gb244, _, none⟩) NB227_244.out _).trans (((cell_far (p := ⟨gb244, _, none⟩) NB227_244.out _).trans (hHeld.2.1)))))))))), ((cell_far (p := ⟨gb244, _, none⟩) NB227_244.out _).trans (((cell_far (p := ⟨gb244, _, none⟩) NB227_244.out _).trans (((cell_far (p := ⟨gb244, _, none⟩) NB227_244.out _).trans (((cell_far (p := ⟨gb244, _, none⟩) NB227_244.out _).trans (((cell_far (p := ⟨gb244, _, none⟩) NB227_244.out _).trans (hHeld.2.2.1)))))))))), ((cell_far (p := ⟨gb244, _, none⟩) NB227_244.out _).trans (((cell_far (p := ⟨gb244, _, none⟩) NB227_244.out _).trans (((cell_far (p := ⟨gb244, _, none⟩) NB227_244.out _).trans (((cell_far (p := ⟨gb244, _, none⟩) NB227_244.out _).trans (((cell_far (p := ⟨gb244, _, none⟩) NB227_244.out _).trans (hHeld.2.2.2.1)))))))))), ((cell_far (p := ⟨gb244, _, none⟩) NB227_244.out _).trans (((cell_far (p := ⟨gb244, _, none⟩) NB227_244.out _).trans (((cell_far (p := ⟨gb244, _, none⟩) NB227_244.out _).trans (((cell_far (p := ⟨gb244, _, none⟩) NB227_244.out _).trans (((cell_far (p := ⟨gb244, _, none⟩) NB227_244.out _).trans (hHeld.2.2.2.2.1)))))))))), ((cell_far (p := ⟨gb244, _, none⟩) NB219_244.out _).trans (((cell_far (p := ⟨gb244, _, none⟩) NB219_244.out _).trans (((cell_far (p := ⟨gb244, _, none⟩) NB219_244.out _).trans (((cell_far (p := ⟨gb244, _, none⟩) NB219_244.out _).trans (((cell_far (p := ⟨gb244, _, none⟩) NB219_244.out _).trans (hHeld.2.2.2.2.2.1)))))))))), ((cell_far (p := ⟨gb244, _, none⟩) NB219_244.out _).trans (((cell_far (p := ⟨gb244, _, none⟩) NB219_244.out _).trans (((cell_far (p := ⟨gb244, _, none⟩) NB219_244.out _).trans (((cell_far (p := ⟨gb244, _, none⟩) NB219_244.out _).trans (((cell_far (p := ⟨gb244, _, none⟩) NB219_244.out _).trans (hHeld.2.2.2.2.2.2))))))))))⟩ (fun hHeld => ?_)
             clear hK K
             refine pure_ (i := 15) (N := some 10) (v := ?_) (a' := ?_) #[true, true, true, true, true, true, true, true, true, true, true, true, true, true, true, true] rfl rfl (any_of HT_.out (by kernel_rfl)) (fun _ _ _ h => h) (Or.inl ⟨by rfl, ?_⟩) ?_ ?_
             rotate_left
             ·
              intro w'
              go_simp
              with_reducible rfl
             rotate_left
             ·
              simp only [Act.put, List.setIfInBounds_toArray, List.set_cons_zero, List.set_cons_succ, i64_w, i32_w]
              rfl
             refine done_ (done_of HT_.out (by kernel_rfl)) ?_
             go_upto_region 11 with (fail)
             go_cut [66] (fun v66 wc => ∃ (kq : Nat) (x66_32 : Bool), v66 = .bool x66_32 ∧ Aside0 (camshaftlaw11_SpecAlone.j2 kq l0 x66_32 a1_0 a1_1 t221 t222 t223 t224 t225 = some r) ∧ Aside0 (kq ≤ kj12) ∧ Aside0 (wc.heap[gb219]? = some (.cells #[.int .u8 a1_0, .int .i64 a1_1] 64 (0, 0))) ∧ Aside0 (wc.heap[gb227]? = some (.cells #[.int .i64 t221, .int .i64 t222, .int .i64 t223, .int .u32 t224, .int .i64 t225] 66 (0, 0))) ∧ Aside0 (wc.heap[gb244]? = some (.cells #[.int .i64 t238, .int .i64 t239, .int .i64 t240, .int .u32 t241, .int .i64 t242] 66 (0, 0))) ∧ Aside0 (Below w.heap.size w wc))
             case first =>
              have H := HC33.out
              clear HC33
              by_cases c49 : t243 = 0
              ·
               rw [if_pos c49] at H
               have c49b0 : (t243 == 0) = true := beq_iff_eq.mpr c49
               have c49b1 : (t243 != 0) = false := bne_eq_false_iff_eq.mpr c49
               clear c49
               (first | rw [c49b0] | (simp only [i64_w, i32_w]; rw [c49b0]) | skip)
               have H' := Aside0.mk H
               clear H
               have hnb50 := NB244_219.out
               have hnc50 := NB219_244.out
               have hnb51 := NB244_227.out
               have hnc51 := NB227_244.out
               have hcz52_0 : w43.cell? ⟨gb244, 0, none⟩ = some (.int .i64 0) := (blk_cell BK244.out 0).trans rfl
               have hcz52_1 : w43.cell? ⟨gb244, 1, none⟩ = some (.int .i64 0) := (blk_cell BK244.out 1).trans rfl
               have hcz52_2 : w43.cell? ⟨gb244, 2, none⟩ = some (.int .i64 0) := (blk_cell BK244.out 2).trans rfl
               have hcz52_3 : w43.cell? ⟨gb244, 3, none⟩ = some (.int .u32 0) := (blk_cell BK244.out 3).trans rfl
               have hcz52_4 : w43.cell? ⟨gb244, 4, none⟩ = some (.int .i64 0) := (blk_cell BK244.out 4).trans rfl
               have hfz52_0 := blk_frozen BK244.out 0
               have hfz52_1 := blk_frozen BK244.out 1
               have hfz52_2 := blk_frozen BK244.out 2
               have hfz52_3 := blk_frozen BK244.out 3
               have hfz52_4 := blk_frozen BK244.out 4
               have hnb53 := NB227_219.out
               have hnc53 := NB219_227.out
               have hcz54_0 : w43.cell? ⟨gb227, 0, none⟩ = some (.int .i64 t221) := (blk_cell BK227.out 0).trans rfl
               have hcz54_1 : w43.cell? ⟨gb227, 1, none⟩ = some (.int .i64 t222) := (blk_cell BK227.out 1).trans rfl
               have hcz54_2 : w43.cell? ⟨gb227, 2, none⟩ = some (.int .i64 t223) := (blk_cell BK227.out 2).trans rfl
               have hcz54_3 : w43.cell? ⟨gb227, 3, none⟩ = some (.int .u32 t224) := (blk_cell BK227.out 3).trans rfl
               have hcz54_4 : w43.cell? ⟨gb227, 4, none⟩ = some (.int .i64 t225) := (blk_cell BK227.out 4).trans rfl
               have hfz54_0 := blk_frozen BK227.out 0
               have hfz54_1 := blk_frozen BK227.out 1
               have hfz54_2 := blk_frozen BK227.out 2
               have hfz54_3 := blk_frozen BK227.out 3
               have hfz54_4 := blk_frozen BK227.out 4
               go_wp2
               go_meet
               case rel => exact ⟨_, ((!(t238 == t221) || (!(t239 == t222) || (!(t240 == t223) || (!(t241 == t224) || (!(t242 == t225))))))), (by first | rfl | (simp; done) | (simp [*]; done)), H', ⟨by have := HJ5.out; have := HJ12.out; first | omega | exact Nat.le_refl _⟩, ⟨by (with_reducible repeat (first | refine bkN ?_ _ | refine bkD ?_ | refine bkA ?_ _)); refine blk_far ?_ NB219_244.out _; (with_reducible repeat (first | refine bkN ?_ _ | refine bkD ?_ | refine bkA ?_ _)); refine blk_far ?_ NB219_244.out _; (with_reducible repeat (first | refine bkN ?_ _ | refine bkD ?_ | refine bkA ?_ _)); refine blk_far ?_ NB219_244.out _; (with_reducible repeat (first | refine bkN ?_ _ | refine bkD ?_ | refine bkA ?_ _)); refine blk_far ?_ NB219_244.out _; (with_reducible repeat (first | refine bkN ?_ _ | refine bkD ?_ | refine bkA ?_ _)); refine blk_far ?_ NB219_244.out _; (with_reducible repeat (first | refine bkN ?_ _ | refine bkD ?_ | refine bkA ?_ _)); exact BK219.out⟩, ⟨by (with_reducible repeat (first | refine bkN ?_ _ | refine bkD ?_ | refine bkA ?_ _)); refine blk_far ?_ NB227_244.out _; (with_reducible repeat (first | refine bkN ?_ _ | refine bkD ?_ | refine bkA ?_ _)); refine blk_far ?_ NB227_244.out _; (with_reducible repeat (first | refine bkN ?_ _ | refine bkD ?_ | refine bkA ?_ _)); refine blk_far ?_ NB227_244.out _; (with_reducible repeat (first | refine bkN ?_ _ | refine bkD ?_ | refine bkA ?_ _)); refine blk_far ?_ NB227_244.out _; (with_reducible repeat (first | refine bkN ?_ _ | refine bkD ?_ | refine bkA ?_ _)); refine blk_far ?_ NB227_244.out _; (with_reducible repeat (first | refine bkN ?_ _ | refine bkD ?_ | refine bkA ?_ _)); exact BK227.out⟩, ⟨by (with_reducible repeat (first | refine bkN ?_ _ | refine bkD ?_ | refine bkA ?_ _)); refine blk_put (cs := #[.int .i64 t238, .int .i64 t239, .int .i64 t240, .int .u32 t241, .int .i64 0]) ?_ 4 _ rfl; (with_reducible repeat (first | refine bkN ?_ _ | refine bkD ?_ | refine bkA ?_ _)); refine blk_put (cs := #[.int .i64 t238, .int .i64 t239, .int .i64 t240, .int .u32 0, .int .i64 0]) ?_ 3 _ rfl; (with_reducible repeat (first | refine bkN ?_ _ | refine bkD ?_ | refine bkA ?_ _)); refine blk_put (cs := #[.int .i64 t238, .int .i64 t239, .int .i64 0, .int .u32 0, .int .i64 0]) ?_ 2 _ rfl; (with_reducible repeat (first | refine bkN ?_ _ | refine bkD ?_ | refine bkA ?_ _)); refine blk_put (cs := #[.int .i64 t238, .int .i64 0, .int .i64 0, .int .u32 0, .int .i64 0]) ?_ 1 _ rfl; (with_reducible repeat (first | refine bkN ?_ _ | refine bkD ?_ | refine bkA ?_ _)); refine blk_put (cs := #[.int .i64 0, .int .i64 0, .int .i64 0, .int .u32 0, .int .i64 0]) ?_ 0 _ rfl; (with_reducible repeat (first | refine bkN ?_ _ | refine bkD ?_ | refine bkA ?_ _)); exact BK244.out⟩, ⟨by repeat (first | (with_reducible first | exact HB.out | apply below_alloc | apply pw_below_drewN | apply below_drew1 | refine blS ?_ GE219.out | refine blS ?_ GE227.out | refine blS ?_ GE244.out) | exact HB.out)⟩⟩
              ·
               rw [if_neg c49] at H
               have c49b0 : (t243 == 0) = false := beq_eq_false_iff_ne.mpr c49
               have c49b1 : (t243 != 0) = true := bne_iff_ne.mpr c49
               (first | rw [c49b0] | (simp only [i64_w, i32_w]; rw [c49b0]) | skip)
               have H' := Aside0.mk H
               clear H
               go_wp2
               go_meet
               case rel => exact ⟨_, (true), (by first | rfl | (simp; done) | (simp [*]; done)), H', ⟨by have := HJ5.out; have := HJ12.out; first | omega | exact Nat.le_refl _⟩, ⟨by (with_reducible repeat (first | refine bkN ?_ _ | refine bkD ?_ | refine bkA ?_ _)); refine blk_far ?_ NB219_244.out _; (with_reducible repeat (first | refine bkN ?_ _ | refine bkD ?_ | refine bkA ?_ _)); refine blk_far ?_ NB219_244.out _; (with_reducible repeat (first | refine bkN ?_ _ | refine bkD ?_ | refine bkA ?_ _)); refine blk_far ?_ NB219_244.out _; (with_reducible repeat (first | refine bkN ?_ _ | refine bkD ?_ | refine bkA ?_ _)); refine blk_far ?_ NB219_244.out _; (with_reducible repeat (first | refine bkN ?_ _ | refine bkD ?_ | refine bkA ?_ _)); refine blk_far ?_ NB219_244.out _; (with_reducible repeat (first | refine bkN ?_ _ | refine bkD ?_ | refine bkA ?_ _)); exact BK219.out⟩, ⟨by (with_reducible repeat (first | refine bkN ?_ _ | refine bkD ?_ | refine bkA ?_ _)); refine blk_far ?_ NB227_244.out _; (with_reducible repeat (first | refine bkN ?_ _ | refine bkD ?_ | refine bkA ?_ _)); refine blk_far ?_ NB227_244.out _; (with_reducible repeat (first | refine bkN ?_ _ | refine bkD ?_ | refine bkA ?_ _)); refine blk_far ?_ NB227_244.out _; (with_reducible repeat (first | refine bkN ?_ _ | refine bkD ?_ | refine bkA ?_ _)); refine blk_far ?_ NB227_244.out _; (with_reducible repeat (first | refine bkN ?_ _ | refine bkD ?_ | refine bkA ?_ _)); refine blk_far ?_ NB227_244.out _; (with_reducible repeat (first | refine bkN ?_ _ | refine bkD ?_ | refine bkA ?_ _)); exact BK227.out⟩, ⟨by (with_reducible repeat (first | refine bkN ?_ _ | refine bkD ?_ | refine bkA ?_ _)); refine blk_put (cs := #[.int .i64 t238, .int .i64 t239, .int .i64 t240, .int .u32 t241, .int .i64 0]) ?_ 4 _ rfl; (with_reducible repeat (first | refine bkN ?_ _ | refine bkD ?_ | refine bkA ?_ _)); refine blk_put (cs := #[.int .i64 t238, .int .i64 t239, .int .i64 t240, .int .u32 0, .int .i64 0]) ?_ 3 _ rfl; (with_reducible repeat (first | refine bkN ?_ _ | refine bkD ?_ | refine bkA ?_ _)); refine blk_put (cs := #[.int .i64 t238, .int .i64 t239, .int .i64 0, .int .u32 0, .int .i64 0]) ?_ 2 _ rfl; (with_reducible repeat (first | refine bkN ?_ _ | refine bkD ?_ | refine bkA ?_ _)); refine blk_put (cs := #[.int .i64 t238, .int .i64 0, .int .i64 0, .int .u32 0, .int .i64 0]) ?_ 1 _ rfl; (with_reducible repeat (first | refine bkN ?_ _ | refine bkD ?_ | refine bkA ?_ _)); refine blk_put (cs := #[.int .i64 0, .int .i64 0, .int .i64 0, .int .u32 0, .int .i64 0]) ?_ 0 _ rfl; (with_reducible repeat (first | refine bkN ?_ _ | refine bkD ?_ | refine bkA ?_ _)); exact BK244.out⟩, ⟨by repeat (first | (with_reducible first | exact HB.out | apply below_alloc | apply pw_below_drewN | apply below_drew1 | refine blS ?_ GE219.out | refine blS ?_ GE227.out | refine blS ?_ GE244.out) | exact HB.out)⟩⟩
             case rest =>
              clear HC33
              try clear p2
              try clear c3
              try clear c4
              try clear c5
              try clear c30
              try clear c31
              try clear c32
              try clear c49
              try clear c49b0
              try clear c49b1
              try clear c50
              try clear c51
              try clear c53
              try clear hcz52_0
              try clear hcz52_1
              try clear hcz52_2
              try clear hcz52_3
              try clear hcz52_4
              try clear hcz54_0
              try clear hcz54_1
              try clear hcz54_2
              try clear hcz54_3
              try clear hcz54_4
              try clear hfz52_0
              try clear hfz52_1
              try clear hfz52_2
              try clear hfz52_3
              try clear hfz52_4
              try clear hfz54_0
              try clear hfz54_1
              try clear hfz54_2
              try clear hfz54_3
              try clear hfz54_4
              obtain ⟨kq, x66_32, rfl, HA, HJ32, BK219, BK227, BK244, HB⟩ := hcut
              cases kq with
              | zero => exact absurd HA.out (by simp [camshaftlaw11_SpecAlone.j2])
              | succ kj32 =>
               have H := HA.out
               clear HA
               simp only [camshaftlaw11_SpecAlone.j2] at H
               by_cases c55 : x66_32 = true
               ·
                subst c55
                have H1 : (some false) = some r := by rw [if_pos rfl] at H; exact H
                clear H
                have H := H1
                clear H1
                obtain rfl := Option.some.inj H
                go_wp2
                go_ret
                exact ⟨by first | rfl | (simp [errW_none, errW_some] <;> rfl) | (simp [*, errW_none, errW_some] <;> rfl), by repeat (first | (with_reducible first | exact HB.out | apply below_alloc | apply pw_below_drewN | apply below_drew1 | refine blS ?_ GE219.out | refine blS ?_ GE227.out | refine blS ?_ GE244.out) | exact HB.out)⟩
               ·
                replace c55 := Bool.eq_false_iff.mpr c55
                subst c55
                have H1 : (camshaftlaw11_SpecAlone.l0 kj32 l0 0 a1_0 a1_1 t221 t222 t223 t224 t225) = some r := by rw [if_neg (show ¬ (false = true) by decide)] at H; exact H
                clear H
                have H := H1
                clear H1
                have H' := Aside0.mk H
                clear H
                go_wp2
                go_loopg [11] kj32 (fun kq v11 w' => ∃ (x11_4 : Int), v11 = .int .i64 x11_4 ∧ Aside0 (camshaftlaw11_SpecAlone.l0 kq l0 x11_4 a1_0 a1_1 t221 t222 t223 t224 t225 = some r) ∧ Aside0 (kq ≤ kj32) ∧ Aside0 (w'.heap[gb219]? = some (.cells #[.int .u8 a1_0, .int .i64 a1_1] 64 (0, 0))) ∧ Aside0 (w'.heap[gb227]? = some (.cells #[.int .i64 t221, .int .i64 t222, .int .i64 t223, .int .u32 t224, .int .i64 t225] 66 (0, 0))) ∧ Aside0 (w'.heap[gb244]? = some (.cells #[.int .i64 t238, .int .i64 t239, .int .i64 t240, .int .u32 t241, .int .i64 t242] 66 (0, 0))) ∧ Aside0 (Below w.heap.size w w'))
                case atStart => exact ⟨(0), (by first | rfl | (simp; done) | (simp [*]; done)), H', ⟨Nat.le_refl _⟩, ⟨by (with_reducible repeat (first | refine bkN ?_ _ | refine bkD ?_ | refine bkA ?_ _)); exact BK219.out⟩, ⟨by (with_reducible repeat (first | refine bkN ?_ _ | refine bkD ?_ | refine bkA ?_ _)); exact BK227.out⟩, ⟨by (with_reducible repeat (first | refine bkN ?_ _ | refine bkD ?_ | refine bkA ?_ _)); exact BK244.out⟩, ⟨by repeat (first | (with_reducible first | exact HB.out | apply below_alloc | apply pw_below_drewN | apply below_drew1 | refine blS ?_ GE219.out | refine blS ?_ GE227.out | refine blS ?_ GE244.out) | exact HB.out)⟩⟩
                case round =>
                 clear H'
                 try clear p2
                 try clear c3
                 try clear c4
                 try clear c5
                 try clear c30
                 try clear c31
                 try clear c32
                 try clear c49
                 try clear c49b0
                 try clear c49b1
                 try clear c50
                 try clear c51
                 try clear c53
                 try clear c55
                 try clear hcz52_0
                 try clear hcz52_1
                 try clear hcz52_2
                 try clear hcz52_3
                 try clear hcz52_4
                 try clear hcz54_0
                 try clear hcz54_1
                 try clear hcz54_2
                 try clear hcz54_3
                 try clear hcz54_4
                 try clear hfz52_0
                 try clear hfz52_1
                 try clear hfz52_2
                 try clear hfz52_3
                 try clear hfz52_4
                 try clear hfz54_0
                 try clear hfz54_1
                 try clear hfz54_2
                 try clear hfz54_3
                 try clear hfz54_4
                 try clear p2
                 obtain ⟨x11_4, rfl, HA, HK4, BK219, BK227, BK244, HB⟩ := hrel
                 cases gk with
                 | zero => exact absurd HA.out (by simp [camshaftlaw11_SpecAlone.l0])
                 | succ k4 =>
                  have H := HA.out
                  clear HA
                  simp only [camshaftlaw11_SpecAlone.l0] at H
                  by_cases c56 : x11_4 < t225
                  ·
                   rw [if_pos c56] at H
                   have c56b0 : decide (x11_4 < t225) = true := decide_eq_true c56
                   clear c56
                   by_cases c57 : 0 ≤ x11_4
                   ·
                    rw [if_pos c57] at H
                    have c57b0 := eq_true c57
                    have c57b1 : decide (0 ≤ x11_4) = true := decide_eq_true c57
                    clear c57
                    by_cases c58 : x11_4 ≤ (l0.length : Int)
                    ·
                     rw [if_pos c58] at H
                     have c58b0 := eq_true c58
                     have c58b1 : decide (x11_4 ≤ (l0.length : Int)) = true := decide_eq_true c58
                     clear c58
                     replace H := Option.bind_eq_some_iff.mp H
                     obtain ⟨⟨t246, t247, t248, t249, t250, t251⟩, A590, H⟩ := H
                     replace H : (if t251 = 3 then (if (!(t246 == 0) || (!(t247 == 0) || (!(t248 == 0) || (!(t249 == 0) || (!(t250 == 0)))))) = true then (some false) else (camshaftlaw11_SpecAlone.l0 k4 l0 (wrap64 (x11_4 + 1)) a1_0 a1_1 t221 t222 t223 t224 t225)) else (some false)) = some r := H
                     have A59 := Aside0.mk A590
                     clear A590
                     by_cases c60 : t251 = 3
                     ·
                      rw [if_pos c60] at H
                      have c60b0 : (t251 == 3) = true := beq_iff_eq.mpr c60
                      have c60b1 : (t251 != 3) = false := bne_eq_false_iff_eq.mpr c60
                      clear c60
                      by_cases c61 : (!(t246 == 0) || (!(t247 == 0) || (!(t248 == 0) || (!(t249 == 0) || (!(t250 == 0)))))) = true
                      ·
                       rw [if_pos c61] at H
                       have c61b0 : (!(t246 == 0) || (!(t247 == 0) || (!(t248 == 0) || (!(t249 == 0) || (!(t250 == 0)))))) = true := c61
                       clear c61
                       obtain rfl := Option.some.inj H
                       have hnb62 := NB227_219.out
                       have hnc62 := NB219_227.out
                       have hnb63 := NB227_244.out
                       have hnc63 := NB244_227.out
                       have hcz64_0 : wr.cell? ⟨gb227, 0, none⟩ = some (.int .i64 t221) := (blk_cell BK227.out 0).trans rfl
                       have hcz64_1 : wr.cell? ⟨gb227, 1, none⟩ = some (.int .i64 t222) := (blk_cell BK227.out 1).trans rfl
                       have hcz64_2 : wr.cell? ⟨gb227, 2, none⟩ = some (.int .i64 t223) := (blk_cell BK227.out 2).trans rfl
                       have hcz64_3 : wr.cell? ⟨gb227, 3, none⟩ = some (.int .u32 t224) := (blk_cell BK227.out 3).trans rfl
                       have hcz64_4 : wr.cell? ⟨gb227, 4, none⟩ = some (.int .i64 t225) := (blk_cell BK227.out 4).trans rfl
                       have hfz64_0 := blk_frozen BK227.out 0
                       have hfz64_1 := blk_frozen BK227.out 1
                       have hfz64_2 := blk_frozen BK227.out 2
                       have hfz64_3 := blk_frozen BK227.out 3
                       have hfz64_4 := blk_frozen BK227.out 4
                       try go_wp2
                       have n0_ := Aside0.mk (bkD BK219.out)
                       have n1_ := Aside0.mk (bkD BK227.out)
                       have n2_ := Aside0.mk (bkD BK244.out)
                       have n3_ := Aside0.mk (below_drew1 HB.out)
                       clear BK219
                       clear BK227
                       clear BK244
                       clear HB
                       have BK219 := n0_
                       have BK227 := n1_
                       have BK244 := n2_
                       have HB := n3_
                       clear n0_ n1_ n2_ n3_
                       obtain ⟨i066, hi066, _, hsz66, _⟩ := info_parts info5
                       obtain ⟨hcut66, hA66, hC66⟩ := print_take_of (P := Try.prog) (Value.int .u8) 0 62 5 .i64 Try.underlying62 hi066 hsz66 A0 c0 l0 x11_4 (of_decide_eq_true (by first | (with_reducible assumption) | assumption)) (of_decide_eq_true (by first | (with_reducible assumption) | assumption)) HC0.out
                       have HR245 := Aside0.mk (Kd.C_of_reads (h1 := fun _ => rfl) (hA66 _ (Kd.reads_of_C HR0.out)))
                       have HC245 := Aside0.mk hC66
                       clear hA66 hC66 hi066 hsz66
                       refine start_ (n := 11) (S := fun w' => w'.cell? ⟨gb219, 0, none⟩ = some (.int .u8 a1_0) ∧ w'.cell? ⟨gb219, 1, none⟩ = some (.int .i64 a1_1)) (ds := []) #[false, false, false, false, false, false, false, false, false, false, false] (by kernel_rfl) rfl rfl ⟨(blk_cell BK219.out 0).trans rfl, (blk_cell BK219.out 1).trans rfl⟩ (fun hHeld => ?_); refine with_tabW camshaftlaw11_SpecAlone.tab16 camshaftlaw11_SpecAlone.bits16 (fun HT_ HW_ => ?_)
                       generalize wr.drew = w65 at BK219 BK227 BK244 HB HR245 hHeld ⊢
                       refine pure_ (i := 0) (N := some 74) (v := ?_) (a' := ?_) #[true, false, false, false, false, false, false, false, false, false, false] rfl rfl (any_of HT_.out (by kernel_rfl)) (fun _ _ _ h => h) (Or.inl ⟨by rfl, ?_⟩) ?_ ?_
                       rotate_left
                       ·
                        intro w'
                        go_simp
                        with_reducible rfl
                       rotate_left
                       ·
                        simp only [Act.put, List.setIfInBounds_toArray, List.set_cons_zero, List.set_cons_succ, i64_w, i32_w]
                        rfl
                       refine pure_ (i := 1) (N := some 75) (v := ?_) (a' := ?_) #[true, true, false, false, false, false, false, false, false, false, false] rfl rfl (any_of HT_.out (by kernel_rfl)) (fun _ _ _ h => h) (Or.inl ⟨by rfl, ?_⟩) ?_ ?_
                       rotate_left
                       ·
                        intro w'
                        go_simp
                        with_reducible rfl
                       rotate_left
                       ·
                        simp only [Act.put, List.setIfInBounds_toArray, List.set_cons_zero, List.set_cons_succ, i64_w, i32_w]
                        rfl
                       refine pure_ (i := 2) (N := some 76) (v := ?_) (a' := ?_) #[true, true, true, false, false, false, false, false, false, false, false] rfl rfl (any_of HT_.out (by kernel_rfl)) (fun _ _ _ h => h) (Or.inl ⟨by rfl, ?_⟩) ?_ ?_
                       rotate_left
                       ·
                        intro w'
                        go_simp
                        with_reducible rfl
                       rotate_left
                       ·
                        simp only [Act.put, List.setIfInBounds_toArray, List.set_cons_zero, List.set_cons_succ, i64_w, i32_w]
                        rfl
                       refine take_ (i := 3) (N := some 77) (v := ?_) (a' := ?_) #[true, true, true, true, false, false, false, false, false, false, false] rfl rfl (take_ofW HT_.out HW_.out (by kernel_rfl)) (fun _ _ _ h => h) (Or.inl ⟨by rfl, ?_⟩) hHeld ?_ ?_
                       rotate_left
                       ·
                        rintro w' ⟨s0, s1⟩
                        go_simp
                        with_reducible rfl
                       rotate_left
                       ·
                        simp only [Act.put, List.setIfInBounds_toArray, List.set_cons_zero, List.set_cons_succ, i64_w, i32_w]
                        rfl
                       refine join_ (σ := Nat) 2 #[true, true, true, true, true, true, true, true, true, false, false] (fun s_ => [(78, .tuple #[.agg #[.int .i64 t246, .int .i64 t247, .int .i64 t248, .int .u32 t249, .int .i64 t250], .int .i64 t251]), (12, .pointer (some ⟨s_, 0, none⟩)), (73, .tuple #[.agg #[.int .i64 t246, .int .i64 t247, .int .i64 t248, .int .u32 t249, .int .i64 t250], .int .i64 t251]), (79, .agg #[.int .i64 t246, .int .i64 t247, .int .i64 t248, .int .u32 t249, .int .i64 t250]), (80, .int .i64 t251)]) (fun s_ w' => (w'.cell? ⟨gb219, 0, none⟩ = some (.int .u8 a1_0) ∧ w'.cell? ⟨gb219, 1, none⟩ = some (.int .i64 a1_1)) ∧ (w'.heap[gb219]? = some (.cells #[.int .u8 a1_0, .int .i64 a1_1] 64 (0, 0))) ∧ (w'.heap[gb227]? = some (.cells #[.int .i64 t221, .int .i64 t222, .int .i64 t223, .int .u32 t224, .int .i64 t225] 66 (0, 0))) ∧ (w'.heap[gb244]? = some (.cells #[.int .i64 t238, .int .i64 t239, .int .i64 t240, .int .u32 t241, .int .i64 t242] 66 (0, 0))) ∧ (w'.heap[s_]? = some (.cells #[.int .i64 0, .int .i64 0, .int .i64 0, .int .u32 0, .int .i64 0] 66 (0, 0))) ∧ (w.heap.size ≤ s_) ∧ (w.heap.size ≤ s_) ∧ (gb219 ≠ s_) ∧ (s_ ≠ gb219) ∧ (gb227 ≠ s_) ∧ (s_ ≠ gb227) ∧ (gb244 ≠ s_) ∧ (s_ ≠ gb244) ∧ (Below w.heap.size w w')) ?_ ?_
                       rotate_left
                       ·
                        intro hCont
                        refine two_ (i := 4) (j := 8) (Ni := some 78) (Nj := some 12) #[true, true, true, true, true, false, false, false, false, false, false] #[true, true, true, true, false, false, false, false, true, false, false] rfl rfl rfl rfl (two_of HT_.out (by kernel_rfl)) (by decide) (by decide) (fun K hK => ?_) (fun K hK => ?_)
                        ·
                         skip
                         refine goes_ Try.func32 (by kernel_rfl) rfl #[.slice A0 (l0.take (x11_4 : Int).toNat).length c0, .agg #[.int .u8 a1_0, .int .i64 a1_1]] (by rfl) rfl rfl (by (try simp only [List.map_toArray, List.map_cons, List.map_nil]); first | done | (rw [show (l0.take (x11_4 : Int).toNat).length = x11_4.toNat from (by rw [List.length_take]; have h_ : (x11_4 : Int) ≤ (l0.length : Int) := of_decide_eq_true (by first | (with_reducible assumption) | assumption); omega)] <;> rfl) | rfl | (simp only [List.length_drop, List.length_take]; rfl)) ?_
                         with_reducible refine (spec_Decode.calls k4 _ _ (l0.take (x11_4 : Int).toNat) a1_0 a1_1 t246 t247 t248 t249 t250 t251 _ ?side1 ?side2 A59.out).mono ?_
                         (case side1 => repeat (first | exact (Kd.C_below HR245.out HB.out) | (with_reducible refine Kd.C_alloc ?_ _) | (with_reducible refine Kd.C_drewN ?_ _) | (with_reducible refine Kd.C_drew ?_)))
                         (case side2 => exact HC245.out)
                         rintro e w67 ⟨rfl, hb⟩
                         refine ⟨_, rfl, ?_⟩
                         have n0_ := Aside0.mk (blk_below (g := gb219) (o := .cells #[.int .u8 a1_0, .int .i64 a1_1] 64 (0, 0)) (by (with_reducible repeat (first | refine bkN ?_ _ | refine bkD ?_ | refine bkA ?_ _)); exact BK219.out) hb)
                         have n1_ := Aside0.mk (blk_below (g := gb227) (o := .cells #[.int .i64 t221, .int .i64 t222, .int .i64 t223, .int .u32 t224, .int .i64 t225] 66 (0, 0)) (by (with_reducible repeat (first | refine bkN ?_ _ | refine bkD ?_ | refine bkA ?_ _)); exact BK227.out) hb)
                         have n2_ := Aside0.mk (blk_below (g := gb244) (o := .cells #[.int .i64 t238, .int .i64 t239, .int .i64 t240, .int .u32 t241, .int .i64 t242] 66 (0, 0)) (by (with_reducible repeat (first | refine bkN ?_ _ | refine bkD ?_ | refine bkA ?_ _)); exact BK244.out) hb)
                         have n3_ := Aside0.mk (below_step (by repeat (first | (with_reducible first | exact HB.out | apply below_alloc | apply pw_below_drewN | apply below_drew1 | refine blS ?_ GE219.out | refine blS ?_ GE227.out | refine blS ?_ GE244.out) | exact HB.out)) hb)
                         clear BK219
                         clear BK227
                         clear BK244
                         clear HB
                         have BK219 := n0_
                         have BK227 := n1_
                         have BK244 := n2_
                         have HB := n3_
                         clear n0_ n1_ n2_ n3_
                         (try clear hb)
                         (try clear hb2)
                         (try clear hk)
                         (try clear hi)
                         refine hK.out _ _ ⟨(blk_cell BK219.out 0).trans rfl, (blk_cell BK219.out 1).trans rfl⟩ (fun hHeld => ?_)
                         clear hK K
                         refine norm_ (a' := ?_) ?_ ?_
                         rotate_left
                         ·
                          show Act.put _ (some 78) _ = _
                          simp only [Act.put, List.setIfInBounds_toArray, List.set_cons_zero, List.set_cons_succ, i64_w, i32_w]
                          rfl
                         refine pure_ (i := 5) (N := some 73) (v := ?_) (a' := ?_) #[true, true, true, true, true, true, false, false, false, false, false] rfl rfl (any_of HT_.out (by kernel_rfl)) (fun _ _ _ h => h) (Or.inl ⟨by rfl, ?_⟩) ?_ ?_
                         rotate_left
                         ·
                          intro w'
                          go_simp
                          with_reducible rfl
                         rotate_left
                         ·
                          simp only [Act.put, List.setIfInBounds_toArray, List.set_cons_zero, List.set_cons_succ, i64_w, i32_w]
                          rfl
                         refine pure_ (i := 6) (N := some 79) (v := ?_) (a' := ?_) #[true, true, true, true, true, true, true, false, false, false, false] rfl rfl (any_of HT_.out (by kernel_rfl)) (fun _ _ _ h => h) (Or.inl ⟨by rfl, ?_⟩) ?_ ?_
                         rotate_left
                         ·
                          intro w'
                          go_simp
                          with_reducible rfl
                         rotate_left
                         ·
                          simp only [Act.put, List.setIfInBounds_toArray, List.set_cons_zero, List.set_cons_succ, i64_w, i32_w]
                          rfl
                         refine pure_ (i := 7) (N := some 80) (v := ?_) (a' := ?_) #[true, true, true, true, true, true, true, true, false, false, false] rfl rfl (any_of HT_.out (by kernel_rfl)) (fun _ _ _ h => h) (Or.inl ⟨by rfl, ?_⟩) ?_ ?_
                         rotate_left
                         ·
                          intro w'
                          go_simp
                          with_reducible rfl
                         rotate_left
                         ·
                          simp only [Act.put, List.setIfInBounds_toArray, List.set_cons_zero, List.set_cons_succ, i64_w, i32_w]
                          rfl
                         refine one_ (i := 8) (N := some 12) #[true, true, true, true, true, true, true, true, true, false, false] rfl rfl (one_of HT_.out (by kernel_rfl)) (by decide) (fun K hK => ?_)
                         refine box_step ?hg (N := 12) ?hd (cs := #[.int .i64 0, .int .i64 0, .int .i64 0, .int .u32 0, .int .i64 0]) (t := 66) ?hr ?_; (case hd => rfl); (case hg => rfl); (case hr => first | (go_simp; done) | (go_simp; rfl))
                         intro gb252 hg w68 hbox hb
                         have n0_ := Aside0.mk (blk_below (g := gb219) (o := .cells #[.int .u8 a1_0, .int .i64 a1_1] 64 (0, 0)) (by (with_reducible repeat (first | refine bkN ?_ _ | refine bkD ?_ | refine bkA ?_ _)); exact BK219.out) hb)
                         have n1_ := Aside0.mk (blk_below (g := gb227) (o := .cells #[.int .i64 t221, .int .i64 t222, .int .i64 t223, .int .u32 t224, .int .i64 t225] 66 (0, 0)) (by (with_reducible repeat (first | refine bkN ?_ _ | refine bkD ?_ | refine bkA ?_ _)); exact BK227.out) hb)
                         have n2_ := Aside0.mk (blk_below (g := gb244) (o := .cells #[.int .i64 t238, .int .i64 t239, .int .i64 t240, .int .u32 t241, .int .i64 t242] 66 (0, 0)) (by (with_reducible repeat (first | refine bkN ?_ _ | refine bkD ?_ | refine bkA ?_ _)); exact BK244.out) hb)
                         have n3_ := Aside0.mk (below_step (by repeat (first | (with_reducible first | exact HB.out | apply below_alloc | apply pw_below_drewN | apply below_drew1 | refine blS ?_ GE219.out | refine blS ?_ GE227.out | refine blS ?_ GE244.out) | exact HB.out)) hb)
                         have n4_ := Aside0.mk (hbox)
                         have n5_ := Aside0.mk ((by rw [hg]; exact (below_size (by repeat (first | (with_reducible first | exact HB.out | apply below_alloc | apply pw_below_drewN | apply below_drew1 | refine blS ?_ GE219.out | refine blS ?_ GE227.out | refine blS ?_ GE244.out) | exact HB.out))) : w.heap.size ≤ gb252))
                         have n6_ := Aside0.mk ((by rw [hg]; exact (below_size (by repeat (first | (with_reducible first | exact HB.out | apply below_alloc | apply pw_below_drewN | apply below_drew1 | refine blS ?_ GE219.out | refine blS ?_ GE227.out | refine blS ?_ GE244.out) | exact HB.out))) : w.heap.size ≤ gb252))
                         have n7_ := Aside0.mk ((by rw [hg]; exact Nat.ne_of_lt (blk_lt (g := gb219) (o := .cells #[.int .u8 a1_0, .int .i64 a1_1] 64 (0, 0)) (by (with_reducible repeat (first | refine bkN ?_ _ | refine bkD ?_ | refine bkA ?_ _)); exact BK219.out)) : gb219 ≠ gb252))
                         have n8_ := Aside0.mk ((by rw [hg]; exact Nat.ne_of_gt (blk_lt (g := gb219) (o := .cells #[.int .u8 a1_0, .int .i64 a1_1] 64 (0, 0)) (by (with_reducible repeat (first | refine bkN ?_ _ | refine bkD ?_ | refine bkA ?_ _)); exact BK219.out)) : gb252 ≠ gb219))
                         have n9_ := Aside0.mk ((by rw [hg]; exact Nat.ne_of_lt (blk_lt (g := gb227) (o := .cells #[.int .i64 t221, .int .i64 t222, .int .i64 t223, .int .u32 t224, .int .i64 t225] 66 (0, 0)) (by (with_reducible repeat (first | refine bkN ?_ _ | refine bkD ?_ | refine bkA ?_ _)); exact BK227.out)) : gb227 ≠ gb252))
                         have n10_ := Aside0.mk ((by rw [hg]; exact Nat.ne_of_gt (blk_lt (g := gb227) (o := .cells #[.int .i64 t221, .int .i64 t222, .int .i64 t223, .int .u32 t224, .int .i64 t225] 66 (0, 0)) (by (with_reducible repeat (first | refine bkN ?_ _ | refine bkD ?_ | refine bkA ?_ _)); exact BK227.out)) : gb252 ≠ gb227))
                         have n11_ := Aside0.mk ((by rw [hg]; exact Nat.ne_of_lt (blk_lt (g := gb244) (o := .cells #[.int .i64 t238, .int .i64 t239, .int .i64 t240, .int .u32 t241, .int .i64 t242] 66 (0, 0)) (by (with_reducible repeat (first | refine bkN ?_ _ | refine bkD ?_ | refine bkA ?_ _)); exact BK244.out)) : gb244 ≠ gb252))
                         have n12_ := Aside0.mk ((by rw [hg]; exact Nat.ne_of_gt (blk_lt (g := gb244) (o := .cells #[.int .i64 t238, .int .i64 t239, .int .i64 t240, .int .u32 t241, .int .i64 t242] 66 (0, 0)) (by (with_reducible repeat (first | refine bkN ?_ _ | refine bkD ?_ | refine bkA ?_ _)); exact BK244.out)) : gb252 ≠ gb244))
                         clear BK219
                         clear BK227
                         clear BK244
                         clear HB
                         have BK219 := n0_
                         have BK227 := n1_
                         have BK244 := n2_
                         have HB := n3_
                         have BK252 := n4_
                         have GW252 := n5_
                         have GE252 := n6_
                         have NB219_252 := n7_
                         have NB252_219 := n8_
                         have NB227_252 := n9_
                         have NB252_227 := n10_
                         have NB244_252 := n11_
                         have NB252_244 := n12_
                         clear n0_ n1_ n2_ n3_ n4_ n5_ n6_ n7_ n8_ n9_ n10_ n11_ n12_
                         clear hb hbox hg
                         refine hK.out _ _ ⟨(blk_cell BK219.out 0).trans rfl, (blk_cell BK219.out 1).trans rfl⟩ (fun hHeld => ?_)
                         clear hK K
                         refine norm_ (a' := ?_) ?_ ?_
                         rotate_left
                         ·
                          show Act.put _ (some 12) _ = _
                          simp only [Act.put, List.setIfInBounds_toArray, List.set_cons_zero, List.set_cons_succ, i64_w, i32_w]
                          rfl
                         exact norm_ (by simp only [putAll, Act.put, List.setIfInBounds_toArray, List.set_cons_zero, List.set_cons_succ]) (hCont (gb252) _ ⟨hHeld, (by (with_reducible repeat (first | refine bkN ?_ _ | refine bkD ?_ | refine bkA ?_ _)); exact BK219.out), (by (with_reducible repeat (first | refine bkN ?_ _ | refine bkD ?_ | refine bkA ?_ _)); exact BK227.out), (by (with_reducible repeat (first | refine bkN ?_ _ | refine bkD ?_ | refine bkA ?_ _)); exact BK244.out), (by (with_reducible repeat (first | refine bkN ?_ _ | refine bkD ?_ | refine bkA ?_ _)); exact BK252.out), GW252.out, GE252.out, NB219_252.out, NB252_219.out, NB227_252.out, NB252_227.out, NB244_252.out, NB252_244.out, (by repeat (first | (with_reducible first | exact HB.out | apply below_alloc | apply pw_below_drewN | apply below_drew1 | refine blS ?_ GE219.out | refine blS ?_ GE227.out | refine blS ?_ GE244.out | refine blS ?_ GE252.out) | exact HB.out))⟩)
                        ·
                         skip
                         refine box_step ?hg (N := 12) ?hd (cs := #[.int .i64 0, .int .i64 0, .int .i64 0, .int .u32 0, .int .i64 0]) (t := 66) ?hr ?_; (case hd => rfl); (case hg => rfl); (case hr => first | (go_simp; done) | (go_simp; rfl))
                         intro gb252 hg w67 hbox hb
                         have n0_ := Aside0.mk (blk_below (g := gb219) (o := .cells #[.int .u8 a1_0, .int .i64 a1_1] 64 (0, 0)) (by (with_reducible repeat (first | refine bkN ?_ _ | refine bkD ?_ | refine bkA ?_ _)); exact BK219.out) hb)
                         have n1_ := Aside0.mk (blk_below (g := gb227) (o := .cells #[.int .i64 t221, .int .i64 t222, .int .i64 t223, .int .u32 t224, .int .i64 t225] 66 (0, 0)) (by (with_reducible repeat (first | refine bkN ?_ _ | refine bkD ?_ | refine bkA ?_ _)); exact BK227.out) hb)
                         have n2_ := Aside0.mk (blk_below (g := gb244) (o := .cells #[.int .i64 t238, .int .i64 t239, .int .i64 t240, .int .u32 t241, .int .i64 t242] 66 (0, 0)) (by (with_reducible repeat (first | refine bkN ?_ _ | refine bkD ?_ | refine bkA ?_ _)); exact BK244.out) hb)
                         have n3_ := Aside0.mk (below_step (by repeat (first | (with_reducible first | exact HB.out | apply below_alloc | apply pw_below_drewN | apply below_drew1 | refine blS ?_ GE219.out | refine blS ?_ GE227.out | refine blS ?_ GE244.out) | exact HB.out)) hb)
                         have n4_ := Aside0.mk (hbox)
                         have n5_ := Aside0.mk ((by rw [hg]; exact (below_size (by repeat (first | (with_reducible first | exact HB.out | apply below_alloc | apply pw_below_drewN | apply below_drew1 | refine blS ?_ GE219.out | refine blS ?_ GE227.out | refine blS ?_ GE244.out) | exact HB.out))) : w.heap.size ≤ gb252))
                         have n6_ := Aside0.mk ((by rw [hg]; exact (below_size (by repeat (first | (with_reducible first | exact HB.out | apply below_alloc | apply pw_below_drewN | apply below_drew1 | refine blS ?_ GE219.out | refine blS ?_ GE227.out | refine blS ?_ GE244.out) | exact HB.out))) : w.heap.size ≤ gb252))
                         have n7_ := Aside0.mk ((by rw [hg]; exact Nat.ne_of_lt (blk_lt (g := gb219) (o := .cells #[.int .u8 a1_0, .int .i64 a1_1] 64 (0, 0)) (by (with_reducible repeat (first | refine bkN ?_ _ | refine bkD ?_ | refine bkA ?_ _)); exact BK219.out)) : gb219 ≠ gb252))
                         have n8_ := Aside0.mk ((by rw [hg]; exact Nat.ne_of_gt (blk_lt (g := gb219) (o := .cells #[.int .u8 a1_0, .int .i64 a1_1] 64 (0, 0)) (by (with_reducible repeat (first | refine bkN ?_ _ | refine bkD ?_ | refine bkA ?_ _)); exact BK219.out)) : gb252 ≠ gb219))
                         have n9_ := Aside0.mk ((by rw [hg]; exact Nat.ne_of_lt (blk_lt (g := gb227) (o := .cells #[.int .i64 t221, .int .i64 t222, .int .i64 t223, .int .u32 t224, .int .i64 t225] 66 (0, 0)) (by (with_reducible repeat (first | refine bkN ?_ _ | refine bkD ?_ | refine bkA ?_ _)); exact BK227.out)) : gb227 ≠ gb252))
                         have n10_ := Aside0.mk ((by rw [hg]; exact Nat.ne_of_gt (blk_lt (g := gb227) (o := .cells #[.int .i64 t221, .int .i64 t222, .int .i64 t223, .int .u32 t224, .int .i64 t225] 66 (0, 0)) (by (with_reducible repeat (first | refine bkN ?_ _ | refine bkD ?_ | refine bkA ?_ _)); exact BK227.out)) : gb252 ≠ gb227))
                         have n11_ := Aside0.mk ((by rw [hg]; exact Nat.ne_of_lt (blk_lt (g := gb244) (o := .cells #[.int .i64 t238, .int .i64 t239, .int .i64 t240, .int .u32 t241, .int .i64 t242] 66 (0, 0)) (by (with_reducible repeat (first | refine bkN ?_ _ | refine bkD ?_ | refine bkA ?_ _)); exact BK244.out)) : gb244 ≠ gb252))
                         have n12_ := Aside0.mk ((by rw [hg]; exact Nat.ne_of_gt (blk_lt (g := gb244) (o := .cells #[.int .i64 t238, .int .i64 t239, .int .i64 t240, .int .u32 t241, .int .i64 t242] 66 (0, 0)) (by (with_reducible repeat (first | refine bkN ?_ _ | refine bkD ?_ | refine bkA ?_ _)); exact BK244.out)) : gb252 ≠ gb244))
                         clear BK219
                         clear BK227
                         clear BK244
                         clear HB
                         have BK219 := n0_
                         have BK227 := n1_
                         have BK244 := n2_
                         have HB := n3_
                         have BK252 := n4_
                         have GW252 := n5_
                         have GE252 := n6_
                         have NB219_252 := n7_
                         have NB252_219 := n8_
                         have NB227_252 := n9_
                         have NB252_227 := n10_
                         have NB244_252 := n11_
                         have NB252_244 := n12_
                         clear n0_ n1_ n2_ n3_ n4_ n5_ n6_ n7_ n8_ n9_ n10_ n11_ n12_
                         clear hb hbox hg
                         refine hK.out _ _ ⟨(blk_cell BK219.out 0).trans rfl, (blk_cell BK219.out 1).trans rfl⟩ (fun hHeld => ?_)
                         clear hK K
                         refine norm_ (a' := ?_) ?_ ?_
                         rotate_left
                         ·
                          show Act.put _ (some 12) _ = _
                          simp only [Act.put, List.setIfInBounds_toArray, List.set_cons_zero, List.set_cons_succ, i64_w, i32_w]
                          rfl
                         refine one_ (i := 4) (N := some 78) #[true, true, true, true, true, false, false, false, true, false, false] rfl rfl (one_of HT_.out (by kernel_rfl)) (by decide) (fun K hK => ?_)
                         refine goes_ Try.func32 (by kernel_rfl) rfl #[.slice A0 (l0.take (x11_4 : Int).toNat).length c0, .agg #[.int .u8 a1_0, .int .i64 a1_1]] (by rfl) rfl rfl (by (try simp only [List.map_toArray, List.map_cons, List.map_nil]); first | done | (rw [show (l0.take (x11_4 : Int).toNat).length = x11_4.toNat from (by rw [List.length_take]; have h_ : (x11_4 : Int) ≤ (l0.length : Int) := of_decide_eq_true (by first | (with_reducible assumption) | assumption); omega)] <;> rfl) | rfl | (simp only [List.length_drop, List.length_take]; rfl)) ?_
                         with_reducible refine (spec_Decode.calls k4 _ _ (l0.take (x11_4 : Int).toNat) a1_0 a1_1 t246 t247 t248 t249 t250 t251 _ ?side1 ?side2 A59.out).mono ?_
                         (case side1 => repeat (first | exact (Kd.C_below HR245.out HB.out) | (with_reducible refine Kd.C_alloc ?_ _) | (with_reducible refine Kd.C_drewN ?_ _) | (with_reducible refine Kd.C_drew ?_)))
                         (case side2 => exact HC245.out)
                         rintro e w68 ⟨rfl, hb⟩
                         refine ⟨_, rfl, ?_⟩
                         have n0_ := Aside0.mk (blk_below (g := gb219) (o := .cells #[.int .u8 a1_0, .int .i64 a1_1] 64 (0, 0)) (by (with_reducible repeat (first | refine bkN ?_ _ | refine bkD ?_ | refine bkA ?_ _)); exact BK219.out) hb)
                         have n1_ := Aside0.mk (blk_below (g := gb227) (o := .cells #[.int .i64 t221, .int .i64 t222, .int .i64 t223, .int .u32 t224, .int .i64 t225] 66 (0, 0)) (by (with_reducible repeat (first | refine bkN ?_ _ | refine bkD ?_ | refine bkA ?_ _)); exact BK227.out) hb)
                         have n2_ := Aside0.mk (blk_below (g := gb244) (o := .cells #[.int .i64 t238, .int .i64 t239, .int .i64 t240, .int .u32 t241, .int .i64 t242] 66 (0, 0)) (by (with_reducible repeat (first | refine bkN ?_ _ | refine bkD ?_ | refine bkA ?_ _)); exact BK244.out) hb)
                         have n3_ := Aside0.mk (blk_below (g := gb252) (o := .cells #[.int .i64 0, .int .i64 0, .int .i64 0, .int .u32 0, .int .i64 0] 66 (0, 0)) (by (with_reducible repeat (first | refine bkN ?_ _ | refine bkD ?_ | refine bkA ?_ _)); exact BK252.out) hb)
                         have n4_ := Aside0.mk (below_step (by repeat (first | (with_reducible first | exact HB.out | apply below_alloc | apply pw_below_drewN | apply below_drew1 | refine blS ?_ GE219.out | refine blS ?_ GE227.out | refine blS ?_ GE244.out | refine blS ?_ GE252.out) | exact HB.out)) hb)
                         clear BK219
                         clear BK227
                         clear BK244
                         clear BK252
                         clear HB
                         have BK219 := n0_
                         have BK227 := n1_
                         have BK244 := n2_
                         have BK252 := n3_
                         have HB := n4_
                         clear n0_ n1_ n2_ n3_ n4_
                         (try clear hb)
                         (try clear hb2)
                         (try clear hk)
                         (try clear hi)
                         refine hK.out _ _ ⟨(blk_cell BK219.out 0).trans rfl, (blk_cell BK219.out 1).trans rfl⟩ (fun hHeld => ?_)
                         clear hK K
                         refine norm_ (a' := ?_) ?_ ?_
                         rotate_left
                         ·
                          show Act.put _ (some 78) _ = _
                          simp only [Act.put, List.setIfInBounds_toArray, List.set_cons_zero, List.set_cons_succ, i64_w, i32_w]
                          rfl
                         refine pure_ (i := 5) (N := some 73) (v := ?_) (a' := ?_) #[true, true, true, true, true, true, false, false, true, false, false] rfl rfl (any_of HT_.out (by kernel_rfl)) (fun _ _ _ h => h) (Or.inl ⟨by rfl, ?_⟩) ?_ ?_
                         rotate_left
                         ·
                          intro w'
                          go_simp
                          with_reducible rfl
                         rotate_left
                         ·
                          simp only [Act.put, List.setIfInBounds_toArray, List.set_cons_zero, List.set_cons_succ, i64_w, i32_w]
                          rfl
                         refine pure_ (i := 6) (N := some 79) (v := ?_) (a' := ?_) #[true, true, true, true, true, true, true, false, true, false, false] rfl rfl (any_of HT_.out (by kernel_rfl)) (fun _ _ _ h => h) (Or.inl ⟨by rfl, ?_⟩) ?_ ?_
                         rotate_left
                         ·
                          intro w'
                          go_simp
                          with_reducible rfl
                         rotate_left
                         ·
                          simp only [Act.put, List.setIfInBounds_toArray, List.set_cons_zero, List.set_cons_succ, i64_w, i32_w]
                          rfl
                         refine pure_ (i := 7) (N := some 80) (v := ?_) (a' := ?_) #[true, true, true, true, true, true, true, true, true, false, false] rfl rfl (any_of HT_.out (by kernel_rfl)) (fun _ _ _ h => h) (Or.inl ⟨by rfl, ?_⟩) ?_ ?_
                         rotate_left
                         ·
                          intro w'
                          go_simp
                          with_reducible rfl
                         rotate_left
                         ·
                          simp only [Act.put, List.setIfInBounds_toArray, List.set_cons_zero, List.set_cons_succ, i64_w, i32_w]
                          rfl
                         exact norm_ (by simp only [putAll, Act.put, List.setIfInBounds_toArray, List.set_cons_zero, List.set_cons_succ]) (hCont (gb252) _ ⟨hHeld, (by (with_reducible repeat (first | refine bkN ?_ _ | refine bkD ?_ | refine bkA ?_ _)); exact BK219.out), (by (with_reducible repeat (first | refine bkN ?_ _ | refine bkD ?_ | refine bkA ?_ _)); exact BK227.out), (by (with_reducible repeat (first | refine bkN ?_ _ | refine bkD ?_ | refine bkA ?_ _)); exact BK244.out), (by (with_reducible repeat (first | refine bkN ?_ _ | refine bkD ?_ | refine bkA ?_ _)); exact BK252.out), GW252.out, GE252.out, NB219_252.out, NB252_219.out, NB227_252.out, NB252_227.out, NB244_252.out, NB252_244.out, (by repeat (first | (with_reducible first | exact HB.out | apply below_alloc | apply pw_below_drewN | apply below_drew1 | refine blS ?_ GE219.out | refine blS ?_ GE227.out | refine blS ?_ GE244.out | refine blS ?_ GE252.out) | exact HB.out))⟩)
                       rintro gb252 w69 ⟨hS_, h0_, h1_, h2_, h3_, h4_, h5_, h6_, h7_, h8_, h9_, h10_, h11_, h12_⟩
                       have n0_ : Aside0 (w69.heap[gb219]? = some (.cells #[.int .u8 a1_0, .int .i64 a1_1] 64 (0, 0))) := ⟨h0_⟩
                       have n1_ : Aside0 (w69.heap[gb227]? = some (.cells #[.int .i64 t221, .int .i64 t222, .int .i64 t223, .int .u32 t224, .int .i64 t225] 66 (0, 0))) := ⟨h1_⟩
                       have n2_ : Aside0 (w69.heap[gb244]? = some (.cells #[.int .i64 t238, .int .i64 t239, .int .i64 t240, .int .u32 t241, .int .i64 t242] 66 (0, 0))) := ⟨h2_⟩
                       have n3_ : Aside0 (w69.heap[gb252]? = some (.cells #[.int .i64 0, .int .i64 0, .int .i64 0, .int .u32 0, .int .i64 0] 66 (0, 0))) := ⟨h3_⟩
                       have n4_ : Aside0 (w.heap.size ≤ gb252) := ⟨h4_⟩
                       have n5_ : Aside0 (w.heap.size ≤ gb252) := ⟨h5_⟩
                       have n6_ : Aside0 (gb219 ≠ gb252) := ⟨h6_⟩
                       have n7_ : Aside0 (gb252 ≠ gb219) := ⟨h7_⟩
                       have n8_ : Aside0 (gb227 ≠ gb252) := ⟨h8_⟩
                       have n9_ : Aside0 (gb252 ≠ gb227) := ⟨h9_⟩
                       have n10_ : Aside0 (gb244 ≠ gb252) := ⟨h10_⟩
                       have n11_ : Aside0 (gb252 ≠ gb244) := ⟨h11_⟩
                       have n12_ : Aside0 (Below w.heap.size w w69) := ⟨h12_⟩
                       clear BK219
                       clear BK227
                       clear BK244
                       clear HB
                       clear h0_ h1_ h2_ h3_ h4_ h5_ h6_ h7_ h8_ h9_ h10_ h11_ h12_
                       have BK219 := n0_
                       have BK227 := n1_
                       have BK244 := n2_
                       have BK252 := n3_
                       have GW252 := n4_
                       have GE252 := n5_
                       have NB219_252 := n6_
                       have NB252_219 := n7_
                       have NB227_252 := n8_
                       have NB252_227 := n9_
                       have NB244_252 := n10_
                       have NB252_244 := n11_
                       have HB := n12_
                       clear n0_ n1_ n2_ n3_ n4_ n5_ n6_ n7_ n8_ n9_ n10_ n11_ n12_
                       have hHeld : w69.cell? ⟨gb219, 0, none⟩ = some (.int .u8 a1_0) ∧ w69.cell? ⟨gb219, 1, none⟩ = some (.int .i64 a1_1) := hS_
                       refine norm_ (a' := ?_) ?_ ?_
                       rotate_left
                       ·
                        simp only [putAll, Act.put, List.setIfInBounds_toArray, List.set_cons_zero, List.set_cons_succ]
                        rfl
                       refine one_ (i := 9) (N := none) #[true, true, true, true, true, true, true, true, true, true, false] rfl rfl (one_of HT_.out (by kernel_rfl)) (by decide) (fun K hK => ?_)
                       have hs70 : w69.cell? ⟨gb252, 0, none⟩ = some (.int .i64 0) := (blk_cell BK252.out 0).trans rfl
                       have hfs70 := blk_frozen BK252.out 0
                       have hns70_0 := NB219_252.out
                       have hns70_1 := NB227_252.out
                       have hns70_2 := NB244_252.out
                       have hms70_0 := NB252_219.out
                       have hms70_1 := NB252_227.out
                       have hms70_2 := NB252_244.out
                       have hs71 : w69.cell? ⟨gb252, 1, none⟩ = some (.int .i64 0) := (blk_cell BK252.out 1).trans rfl
                       have hfs71 := blk_frozen BK252.out 1
                       have hns71_0 := NB219_252.out
                       have hns71_1 := NB227_252.out
                       have hns71_2 := NB244_252.out
                       have hms71_0 := NB252_219.out
                       have hms71_1 := NB252_227.out
                       have hms71_2 := NB252_244.out
                       have hs72 : w69.cell? ⟨gb252, 2, none⟩ = some (.int .i64 0) := (blk_cell BK252.out 2).trans rfl
                       have hfs72 := blk_frozen BK252.out 2
                       have hns72_0 := NB219_252.out
                       have hns72_1 := NB227_252.out
                       have hns72_2 := NB244_252.out
                       have hms72_0 := NB252_219.out
                       have hms72_1 := NB252_227.out
                       have hms72_2 := NB252_244.out
                       have hs73 : w69.cell? ⟨gb252, 3, none⟩ = some (.int .u32 0) := (blk_cell BK252.out 3).trans rfl
                       have hfs73 := blk_frozen BK252.out 3
                       have hns73_0 := NB219_252.out
                       have hns73_1 := NB227_252.out
                       have hns73_2 := NB244_252.out
                       have hms73_0 := NB252_219.out
                       have hms73_1 := NB252_227.out
                       have hms73_2 := NB252_244.out
                       have hs74 : w69.cell? ⟨gb252, 4, none⟩ = some (.int .i64 0) := (blk_cell BK252.out 4).trans rfl
                       have hfs74 := blk_frozen BK252.out 4
                       have hns74_0 := NB219_252.out
                       have hns74_1 := NB227_252.out
                       have hns74_2 := NB244_252.out
                       have hms74_0 := NB252_219.out
                       have hms74_1 := NB252_227.out
                       have hms74_2 := NB252_244.out
                       refine skip_ (w1 := ?_) (by rfl) rfl ?_ ?_
                       rotate_left
                       ·
                        go_simp
                        rfl
                       refine hK.out _ _ ⟨((cell_far (p := ⟨gb252, _, none⟩) NB219_252.out _).trans (((cell_far (p := ⟨gb252, _, none⟩) NB219_252.out _).trans (((cell_far (p := ⟨gb252, _, none⟩) NB219_252.out _).trans (((cell_far (p := ⟨gb252, _, none⟩) NB219_252.out _).trans (((cell_far (p := ⟨gb252, _, none⟩) NB219_252.out _).trans (hHeld.1)))))))))), ((cell_far (p := ⟨gb252, _, none⟩) NB219_252.out _).trans (((cell_far (p := ⟨gb252, _, none⟩) NB219_252.out _).trans (((cell_far (p := ⟨gb252, _, none⟩) NB219_252.out _).trans (((cell_far (p := ⟨gb252, _, none⟩) NB219_252.out _).trans (((cell_far (p := ⟨gb252, _, none⟩) NB219_252.out _).trans (hHeld.2))))))))))⟩ (fun hHeld => ?_)
                       clear hK K
                       refine pure_ (i := 10) (N := some 13) (v := ?_) (a' := ?_) #[true, true, true, true, true, true, true, true, true, true, true] rfl rfl (any_of HT_.out (by kernel_rfl)) (fun _ _ _ h => h) (Or.inl ⟨by rfl, ?_⟩) ?_ ?_
                       rotate_left
                       ·
                        intro w'
                        go_simp
                        with_reducible rfl
                       rotate_left
                       ·
                        simp only [Act.put, List.setIfInBounds_toArray, List.set_cons_zero, List.set_cons_succ, i64_w, i32_w]
                        rfl
                       refine done_ (done_of HT_.out (by kernel_rfl)) ?_
                       have hnb75 := NB252_219.out
                       have hnc75 := NB219_252.out
                       have hnb76 := NB252_227.out
                       have hnc76 := NB227_252.out
                       have hnb77 := NB252_244.out
                       have hnc77 := NB244_252.out
                       have hcz78_0 : w69.cell? ⟨gb252, 0, none⟩ = some (.int .i64 0) := (blk_cell BK252.out 0).trans rfl
                       have hcz78_1 : w69.cell? ⟨gb252, 1, none⟩ = some (.int .i64 0) := (blk_cell BK252.out 1).trans rfl
                       have hcz78_2 : w69.cell? ⟨gb252, 2, none⟩ = some (.int .i64 0) := (blk_cell BK252.out 2).trans rfl
                       have hcz78_3 : w69.cell? ⟨gb252, 3, none⟩ = some (.int .u32 0) := (blk_cell BK252.out 3).trans rfl
                       have hcz78_4 : w69.cell? ⟨gb252, 4, none⟩ = some (.int .i64 0) := (blk_cell BK252.out 4).trans rfl
                       have hfz78_0 := blk_frozen BK252.out 0
                       have hfz78_1 := blk_frozen BK252.out 1
                       have hfz78_2 := blk_frozen BK252.out 2
                       have hfz78_3 := blk_frozen BK252.out 3
                       have hfz78_4 := blk_frozen BK252.out 4
                       try go_wp2
                       go_ret
                       exact ⟨by first | rfl | (simp [errW_none, errW_some] <;> rfl) | (simp [*, errW_none, errW_some] <;> rfl), by repeat (first | (with_reducible first | exact HB.out | apply below_alloc | apply pw_below_drewN | apply below_drew1 | refine blS ?_ GE219.out | refine blS ?_ GE227.out | refine blS ?_ GE244.out | refine blS ?_ GE252.out) | exact HB.out)⟩
                      ·
                       rw [if_neg c61] at H
                       have c61b0 : (!(t246 == 0) || (!(t247 == 0) || (!(t248 == 0) || (!(t249 == 0) || (!(t250 == 0)))))) = false := by simpa using c61
                       clear c61
                       have H' := Aside0.mk H
                       clear H
                       have hnb79 := NB227_219.out
                       have hnc79 := NB219_227.out
                       have hnb80 := NB227_244.out
                       have hnc80 := NB244_227.out
                       have hcz81_0 : wr.cell? ⟨gb227, 0, none⟩ = some (.int .i64 t221) := (blk_cell BK227.out 0).trans rfl
                       have hcz81_1 : wr.cell? ⟨gb227, 1, none⟩ = some (.int .i64 t222) := (blk_cell BK227.out 1).trans rfl
                       have hcz81_2 : wr.cell? ⟨gb227, 2, none⟩ = some (.int .i64 t223) := (blk_cell BK227.out 2).trans rfl
                       have hcz81_3 : wr.cell? ⟨gb227, 3, none⟩ = some (.int .u32 t224) := (blk_cell BK227.out 3).trans rfl
                       have hcz81_4 : wr.cell? ⟨gb227, 4, none⟩ = some (.int .i64 t225) := (blk_cell BK227.out 4).trans rfl
                       have hfz81_0 := blk_frozen BK227.out 0
                       have hfz81_1 := blk_frozen BK227.out 1
                       have hfz81_2 := blk_frozen BK227.out 2
                       have hfz81_3 := blk_frozen BK227.out 3
                       have hfz81_4 := blk_frozen BK227.out 4
                       try go_wp2
                       have n0_ := Aside0.mk (bkD BK219.out)
                       have n1_ := Aside0.mk (bkD BK227.out)
                       have n2_ := Aside0.mk (bkD BK244.out)
                       have n3_ := Aside0.mk (below_drew1 HB.out)
                       clear BK219
                       clear BK227
                       clear BK244
                       clear HB
                       have BK219 := n0_
                       have BK227 := n1_
                       have BK244 := n2_
                       have HB := n3_
                       clear n0_ n1_ n2_ n3_
                       obtain ⟨i083, hi083, _, hsz83, _⟩ := info_parts info5
                       obtain ⟨hcut83, hA83, hC83⟩ := print_take_of (P := Try.prog) (Value.int .u8) 0 62 5 .i64 Try.underlying62 hi083 hsz83 A0 c0 l0 x11_4 (of_decide_eq_true (by first | (with_reducible assumption) | assumption)) (of_decide_eq_true (by first | (with_reducible assumption) | assumption)) HC0.out
                       have HR245 := Aside0.mk (Kd.C_of_reads (h1 := fun _ => rfl) (hA83 _ (Kd.reads_of_C HR0.out)))
                       have HC245 := Aside0.mk hC83
                       clear hA83 hC83 hi083 hsz83
                       refine start_ (n := 11) (S := fun w' => w'.cell? ⟨gb219, 0, none⟩ = some (.int .u8 a1_0) ∧ w'.cell? ⟨gb219, 1, none⟩ = some (.int .i64 a1_1)) (ds := []) #[false, false, false, false, false, false, false, false, false, false, false] (by kernel_rfl) rfl rfl ⟨(blk_cell BK219.out 0).trans rfl, (blk_cell BK219.out 1).trans rfl⟩ (fun hHeld => ?_); refine with_tabW camshaftlaw11_SpecAlone.tab16 camshaftlaw11_SpecAlone.bits16 (fun HT_ HW_ => ?_)
                       generalize wr.drew = w82 at BK219 BK227 BK244 HB HR245 hHeld ⊢
                       refine pure_ (i := 0) (N := some 74) (v := ?_) (a' := ?_) #[true, false, false, false, false, false, false, false, false, false, false] rfl rfl (any_of HT_.out (by kernel_rfl)) (fun _ _ _ h => h) (Or.inl ⟨by rfl, ?_⟩) ?_ ?_
                       rotate_left
                       ·
                        intro w'
                        go_simp
                        with_reducible rfl
                       rotate_left
                       ·
                        simp only [Act.put, List.setIfInBounds_toArray, List.set_cons_zero, List.set_cons_succ, i64_w, i32_w]
                        rfl
                       refine pure_ (i := 1) (N := some 75) (v := ?_) (a' := ?_) #[true, true, false, false, false, false, false, false, false, false, false] rfl rfl (any_of HT_.out (by kernel_rfl)) (fun _ _ _ h => h) (Or.inl ⟨by rfl, ?_⟩) ?_ ?_
                       rotate_left
                       ·
                        intro w'
                        go_simp
                        with_reducible rfl
                       rotate_left
                       ·
                        simp only [Act.put, List.setIfInBounds_toArray, List.set_cons_zero, List.set_cons_succ, i64_w, i32_w]
                        rfl
                       refine pure_ (i := 2) (N := some 76) (v := ?_) (a' := ?_) #[true, true, true, false, false, false, false, false, false, false, false] rfl rfl (any_of HT_.out (by kernel_rfl)) (fun _ _ _ h => h) (Or.inl ⟨by rfl, ?_⟩) ?_ ?_
                       rotate_left
                       ·
                        intro w'
                        go_simp
                        with_reducible rfl
                       rotate_left
                       ·
                        simp only [Act.put, List.setIfInBounds_toArray, List.set_cons_zero, List.set_cons_succ, i64_w, i32_w]
                        rfl
                       refine take_ (i := 3) (N := some 77) (v := ?_) (a' := ?_) #[true, true, true, true, false, false, false, false, false, false, false] rfl rfl (take_ofW HT_.out HW_.out (by kernel_rfl)) (fun _ _ _ h => h) (Or.inl ⟨by rfl, ?_⟩) hHeld ?_ ?_
                       rotate_left
                       ·
                        rintro w' ⟨s0, s1⟩
                        go_simp
                        with_reducible rfl
                       rotate_left
                       ·
                        simp only [Act.put, List.setIfInBounds_toArray, List.set_cons_zero, List.set_cons_succ, i64_w, i32_w]
                        rfl
                       refine join_ (σ := Nat) 2 #[true, true, true, true, true, true, true, true, true, false, false] (fun s_ => [(78, .tuple #[.agg #[.int .i64 t246, .int .i64 t247, .int .i64 t248, .int .u32 t249, .int .i64 t250], .int .i64 t251]), (12, .pointer (some ⟨s_, 0, none⟩)), (73, .tuple #[.agg #[.int .i64 t246, .int .i64 t247, .int .i64 t248, .int .u32 t249, .int .i64 t250], .int .i64 t251]), (79, .agg #[.int .i64 t246, .int .i64 t247, .int .i64 t248, .int .u32 t249, .int .i64 t250]), (80, .int .i64 t251)]) (fun s_ w' => (w'.cell? ⟨gb219, 0, none⟩ = some (.int .u8 a1_0) ∧ w'.cell? ⟨gb219, 1, none⟩ = some (.int .i64 a1_1)) ∧ (w'.heap[gb219]? = some (.cells #[.int .u8 a1_0, .int .i64 a1_1] 64 (0, 0))) ∧ (w'.heap[gb227]? = some (.cells #[.int .i64 t221, .int .i64 t222, .int .i64 t223, .int .u32 t224, .int .i64 t225] 66 (0, 0))) ∧ (w'.heap[gb244]? = some (.cells #[.int .i64 t238, .int .i64 t239, .int .i64 t240, .int .u32 t241, .int .i64 t242] 66 (0, 0))) ∧ (w'.heap[s_]? = some (.cells #[.int .i64 0, .int .i64 0, .int .i64 0, .int .u32 0, .int .i64 0] 66 (0, 0))) ∧ (w.heap.size ≤ s_) ∧ (w.heap.size ≤ s_) ∧ (gb219 ≠ s_) ∧ (s_ ≠ gb219) ∧ (gb227 ≠ s_) ∧ (s_ ≠ gb227) ∧ (gb244 ≠ s_) ∧ (s_ ≠ gb244) ∧ (Below w.heap.size w w')) ?_ ?_
                       rotate_left
                       ·
                        intro hCont
                        refine two_ (i := 4) (j := 8) (Ni := some 78) (Nj := some 12) #[true, true, true, true, true, false, false, false, false, false, false] #[true, true, true, true, false, false, false, false, true, false, false] rfl rfl rfl rfl (two_of HT_.out (by kernel_rfl)) (by decide) (by decide) (fun K hK => ?_) (fun K hK => ?_)
                        ·
                         skip
                         refine goes_ Try.func32 (by kernel_rfl) rfl #[.slice A0 (l0.take (x11_4 : Int).toNat).length c0, .agg #[.int .u8 a1_0, .int .i64 a1_1]] (by rfl) rfl rfl (by (try simp only [List.map_toArray, List.map_cons, List.map_nil]); first | done | (rw [show (l0.take (x11_4 : Int).toNat).length = x11_4.toNat from (by rw [List.length_take]; have h_ : (x11_4 : Int) ≤ (l0.length : Int) := of_decide_eq_true (by first | (with_reducible assumption) | assumption); omega)] <;> rfl) | rfl | (simp only [List.length_drop, List.length_take]; rfl)) ?_
                         with_reducible refine (spec_Decode.calls k4 _ _ (l0.take (x11_4 : Int).toNat) a1_0 a1_1 t246 t247 t248 t249 t250 t251 _ ?side1 ?side2 A59.out).mono ?_
                         (case side1 => repeat (first | exact (Kd.C_below HR245.out HB.out) | (with_reducible refine Kd.C_alloc ?_ _) | (with_reducible refine Kd.C_drewN ?_ _) | (with_reducible refine Kd.C_drew ?_)))
                         (case side2 => exact HC245.out)
                         rintro e w84 ⟨rfl, hb⟩
                         refine ⟨_, rfl, ?_⟩
                         have n0_ := Aside0.mk (blk_below (g := gb219) (o := .cells #[.int .u8 a1_0, .int .i64 a1_1] 64 (0, 0)) (by (with_reducible repeat (first | refine bkN ?_ _ | refine bkD ?_ | refine bkA ?_ _)); exact BK219.out) hb)
                         have n1_ := Aside0.mk (blk_below (g := gb227) (o := .cells #[.int .i64 t221, .int .i64 t222, .int .i64 t223, .int .u32 t224, .int .i64 t225] 66 (0, 0)) (by (with_reducible repeat (first | refine bkN ?_ _ | refine bkD ?_ | refine bkA ?_ _)); exact BK227.out) hb)
                         have n2_ := Aside0.mk (blk_below (g := gb244) (o := .cells #[.int .i64 t238, .int .i64 t239, .int .i64 t240, .int .u32 t241, .int .i64 t242] 66 (0, 0)) (by (with_reducible repeat (first | refine bkN ?_ _ | refine bkD ?_ | refine bkA ?_ _)); exact BK244.out) hb)
                         have n3_ := Aside0.mk (below_step (by repeat (first | (with_reducible first | exact HB.out | apply below_alloc | apply pw_below_drewN | apply below_drew1 | refine blS ?_ GE219.out | refine blS ?_ GE227.out | refine blS ?_ GE244.out) | exact HB.out)) hb)
                         clear BK219
                         clear BK227
                         clear BK244
                         clear HB
                         have BK219 := n0_
                         have BK227 := n1_
                         have BK244 := n2_
                         have HB := n3_
                         clear n0_ n1_ n2_ n3_
                         (try clear hb)
                         (try clear hb2)
                         (try clear hk)
                         (try clear hi)
                         refine hK.out _ _ ⟨(blk_cell BK219.out 0).trans rfl, (blk_cell BK219.out 1).trans rfl⟩ (fun hHeld => ?_)
                         clear hK K
                         refine norm_ (a' := ?_) ?_ ?_
                         rotate_left
                         ·
                          show Act.put _ (some 78) _ = _
                          simp only [Act.put, List.setIfInBounds_toArray, List.set_cons_zero, List.set_cons_succ, i64_w, i32_w]
                          rfl
                         refine pure_ (i := 5) (N := some 73) (v := ?_) (a' := ?_) #[true, true, true, true, true, true, false, false, false, false, false] rfl rfl (any_of HT_.out (by kernel_rfl)) (fun _ _ _ h => h) (Or.inl ⟨by rfl, ?_⟩) ?_ ?_
                         rotate_left
                         ·
                          intro w'
                          go_simp
                          with_reducible rfl
                         rotate_left
                         ·
                          simp only [Act.put, List.setIfInBounds_toArray, List.set_cons_zero, List.set_cons_succ, i64_w, i32_w]
                          rfl
                         refine pure_ (i := 6) (N := some 79) (v := ?_) (a' := ?_) #[true, true, true, true, true, true, true, false, false, false, false] rfl rfl (any_of HT_.out (by kernel_rfl)) (fun _ _ _ h => h) (Or.inl ⟨by rfl, ?_⟩) ?_ ?_
                         rotate_left
                         ·
                          intro w'
                          go_simp
                          with_reducible rfl
                         rotate_left
                         ·
                          simp only [Act.put, List.setIfInBounds_toArray, List.set_cons_zero, List.set_cons_succ, i64_w, i32_w]
                          rfl
                         refine pure_ (i := 7) (N := some 80) (v := ?_) (a' := ?_) #[true, true, true, true, true, true, true, true, false, false, false] rfl rfl (any_of HT_.out (by kernel_rfl)) (fun _ _ _ h => h) (Or.inl ⟨by rfl, ?_⟩) ?_ ?_
                         rotate_left
                         ·
                          intro w'
                          go_simp
                          with_reducible rfl
                         rotate_left
                         ·
                          simp only [Act.put, List.setIfInBounds_toArray, List.set_cons_zero, List.set_cons_succ, i64_w, i32_w]
                          rfl
                         refine one_ (i := 8) (N := some 12) #[true, true, true, true, true, true, true, true, true, false, false] rfl rfl (one_of HT_.out (by kernel_rfl)) (by decide) (fun K hK => ?_)
                         refine box_step ?hg (N := 12) ?hd (cs := #[.int .i64 0, .int .i64 0, .int .i64 0, .int .u32 0, .int .i64 0]) (t := 66) ?hr ?_; (case hd => rfl); (case hg => rfl); (case hr => first | (go_simp; done) | (go_simp; rfl))
                         intro gb252 hg w85 hbox hb
                         have n0_ := Aside0.mk (blk_below (g := gb219) (o := .cells #[.int .u8 a1_0, .int .i64 a1_1] 64 (0, 0)) (by (with_reducible repeat (first | refine bkN ?_ _ | refine bkD ?_ | refine bkA ?_ _)); exact BK219.out) hb)
                         have n1_ := Aside0.mk (blk_below (g := gb227) (o := .cells #[.int .i64 t221, .int .i64 t222, .int .i64 t223, .int .u32 t224, .int .i64 t225] 66 (0, 0)) (by (with_reducible repeat (first | refine bkN ?_ _ | refine bkD ?_ | refine bkA ?_ _)); exact BK227.out) hb)
                         have n2_ := Aside0.mk (blk_below (g := gb244) (o := .cells #[.int .i64 t238, .int .i64 t239, .int .i64 t240, .int .u32 t241, .int .i64 t242] 66 (0, 0)) (by (with_reducible repeat (first | refine bkN ?_ _ | refine bkD ?_ | refine bkA ?_ _)); exact BK244.out) hb)
                         have n3_ := Aside0.mk (below_step (by repeat (first | (with_reducible first | exact HB.out | apply below_alloc | apply pw_below_drewN | apply below_drew1 | refine blS ?_ GE219.out | refine blS ?_ GE227.out | refine blS ?_ GE244.out) | exact HB.out)) hb)
                         have n4_ := Aside0.mk (hbox)
                         have n5_ := Aside0.mk ((by rw [hg]; exact (below_size (by repeat (first | (with_reducible first | exact HB.out | apply below_alloc | apply pw_below_drewN | apply below_drew1 | refine blS ?_ GE219.out | refine blS ?_ GE227.out | refine blS ?_ GE244.out) | exact HB.out))) : w.heap.size ≤ gb252))
                         have n6_ := Aside0.mk ((by rw [hg]; exact (below_size (by repeat (first | (with_reducible first | exact HB.out | apply below_alloc | apply pw_below_drewN | apply below_drew1 | refine blS ?_ GE219.out | refine blS ?_ GE227.out | refine blS ?_ GE244.out) | exact HB.out))) : w.heap.size ≤ gb252))
                         have n7_ := Aside0.mk ((by rw [hg]; exact Nat.ne_of_lt (blk_lt (g := gb219) (o := .cells #[.int .u8 a1_0, .int .i64 a1_1] 64 (0, 0)) (by (with_reducible repeat (first | refine bkN ?_ _ | refine bkD ?_ | refine bkA ?_ _)); exact BK219.out)) : gb219 ≠ gb252))
                         have n8_ := Aside0.mk ((by rw [hg]; exact Nat.ne_of_gt (blk_lt (g := gb219) (o := .cells #[.int .u8 a1_0, .int .i64 a1_1] 64 (0, 0)) (by (with_reducible repeat (first | refine bkN ?_ _ | refine bkD ?_ | refine bkA ?_ _)); exact BK219.out)) : gb252 ≠ gb219))
                         have n9_ := Aside0.mk ((by rw [hg]; exact Nat.ne_of_lt (blk_lt (g := gb227) (o := .cells #[.int .i64 t221, .int .i64 t222, .int .i64 t223, .int .u32 t224, .int .i64 t225] 66 (0, 0)) (by (with_reducible repeat (first | refine bkN ?_ _ | refine bkD ?_ | refine bkA ?_ _)); exact BK227.out)) : gb227 ≠ gb252))
                         have n10_ := Aside0.mk ((by rw [hg]; exact Nat.ne_of_gt (blk_lt (g := gb227) (o := .cells #[.int .i64 t221, .int .i64 t222, .int .i64 t223, .int .u32 t224, .int .i64 t225] 66 (0, 0)) (by (with_reducible repeat (first | refine bkN ?_ _ | refine bkD ?_ | refine bkA ?_ _)); exact BK227.out)) : gb252 ≠ gb227))
                         have n11_ := Aside0.mk ((by rw [hg]; exact Nat.ne_of_lt (blk_lt (g := gb244) (o := .cells #[.int .i64 t238, .int .i64 t239, .int .i64 t240, .int .u32 t241, .int .i64 t242] 66 (0, 0)) (by (with_reducible repeat (first | refine bkN ?_ _ | refine bkD ?_ | refine bkA ?_ _)); exact BK244.out)) : gb244 ≠ gb252))
                         have n12_ := Aside0.mk ((by rw [hg]; exact Nat.ne_of_gt (blk_lt (g := gb244) (o := .cells #[.int .i64 t238, .int .i64 t239, .int .i64 t240, .int .u32 t241, .int .i64 t242] 66 (0, 0)) (by (with_reducible repeat (first | refine bkN ?_ _ | refine bkD ?_ | refine bkA ?_ _)); exact BK244.out)) : gb252 ≠ gb244))
                         clear BK219
                         clear BK227
                         clear BK244
                         clear HB
                         have BK219 := n0_
                         have BK227 := n1_
                         have BK244 := n2_
                         have HB := n3_
                         have BK252 := n4_
                         have GW252 := n5_
                         have GE252 := n6_
                         have NB219_252 := n7_
                         have NB252_219 := n8_
                         have NB227_252 := n9_
                         have NB252_227 := n10_
                         have NB244_252 := n11_
                         have NB252_244 := n12_
                         clear n0_ n1_ n2_ n3_ n4_ n5_ n6_ n7_ n8_ n9_ n10_ n11_ n12_
                         clear hb hbox hg
                         refine hK.out _ _ ⟨(blk_cell BK219.out 0).trans rfl, (blk_cell BK219.out 1).trans rfl⟩ (fun hHeld => ?_)
                         clear hK K
                         refine norm_ (a' := ?_) ?_ ?_
                         rotate_left
                         ·
                          show Act.put _ (some 12) _ = _
                          simp only [Act.put, List.setIfInBounds_toArray, List.set_cons_zero, List.set_cons_succ, i64_w, i32_w]
                          rfl
                         exact norm_ (by simp only [putAll, Act.put, List.setIfInBounds_toArray, List.set_cons_zero, List.set_cons_succ]) (hCont (gb252) _ ⟨hHeld, (by (with_reducible repeat (first | refine bkN ?_ _ | refine bkD ?_ | refine bkA ?_ _)); exact BK219.out), (by (with_reducible repeat (first | refine bkN ?_ _ | refine bkD ?_ | refine bkA ?_ _)); exact BK227.out), (by (with_reducible repeat (first | refine bkN ?_ _ | refine bkD ?_ | refine bkA ?_ _)); exact BK244.out), (by (with_reducible repeat (first | refine bkN ?_ _ | refine bkD ?_ | refine bkA ?_ _)); exact BK252.out), GW252.out, GE252.out, NB219_252.out, NB252_219.out, NB227_252.out, NB252_227.out, NB244_252.out, NB252_244.out, (by repeat (first | (with_reducible first | exact HB.out | apply below_alloc | apply pw_below_drewN | apply below_drew1 | refine blS ?_ GE219.out | refine blS ?_ GE227.out | refine blS ?_ GE244.out | refine blS ?_ GE252.out) | exact HB.out))⟩)
                        ·
                         skip
                         refine box_step ?hg (N := 12) ?hd (cs := #[.int .i64 0, .int .i64 0, .int .i64 0, .int .u32 0, .int .i64 0]) (t := 66) ?hr ?_; (case hd => rfl); (case hg => rfl); (case hr => first | (go_simp; done) | (go_simp; rfl))
                         intro gb252 hg w84 hbox hb
                         have n0_ := Aside0.mk (blk_below (g := gb219) (o := .cells #[.int .u8 a1_0, .int .i64 a1_1] 64 (0, 0)) (by (with_reducible repeat (first | refine bkN ?_ _ | refine bkD ?_ | refine bkA ?_ _)); exact BK219.out) hb)
                         have n1_ := Aside0.mk (blk_below (g := gb227) (o := .cells #[.int .i64 t221, .int .i64 t222, .int .i64 t223, .int .u32 t224, .int .i64 t225] 66 (0, 0)) (by (with_reducible repeat (first | refine bkN ?_ _ | refine bkD ?_ | refine bkA ?_ _)); exact BK227.out) hb)
                         have n2_ := Aside0.mk (blk_below (g := gb244) (o := .cells #[.int .i64 t238, .int .i64 t239, .int .i64 t240, .int .u32 t241, .int .i64 t242] 66 (0, 0)) (by (with_reducible repeat (first | refine bkN ?_ _ | refine bkD ?_ | refine bkA ?_ _)); exact BK244.out) hb)
                         have n3_ := Aside0.mk (below_step (by repeat (first | (with_reducible first | exact HB.out | apply below_alloc | apply pw_below_drewN | apply below_drew1 | refine blS ?_ GE219.out | refine blS ?_ GE227.out | refine blS ?_ GE244.out) | exact HB.out)) hb)
                         have n4_ := Aside0.mk (hbox)
                         have n5_ := Aside0.mk ((by rw [hg]; exact (below_size (by repeat (first | (with_reducible first | exact HB.out | apply below_alloc | apply pw_below_drewN | apply below_drew1 | refine blS ?_ GE219.out | refine blS ?_ GE227.out | refine blS ?_ GE244.out) | exact HB.out))) : w.heap.size ≤ gb252))
                         have n6_ := Aside0.mk ((by rw [hg]; exact (below_size (by repeat (first | (with_reducible first | exact HB.out | apply below_alloc | apply pw_below_drewN | apply below_drew1 | refine blS ?_ GE219.out | refine blS ?_ GE227.out | refine blS ?_ GE244.out) | exact HB.out))) : w.heap.size ≤ gb252))
                         have n7_ := Aside0.mk ((by rw [hg]; exact Nat.ne_of_lt (blk_lt (g := gb219) (o := .cells #[.int .u8 a1_0, .int .i64 a1_1] 64 (0, 0)) (by (with_reducible repeat (first | refine bkN ?_ _ | refine bkD ?_ | refine bkA ?_ _)); exact BK219.out)) : gb219 ≠ gb252))
                         have n8_ := Aside0.mk ((by rw [hg]; exact Nat.ne_of_gt (blk_lt (g := gb219) (o := .cells #[.int .u8 a1_0, .int .i64 a1_1] 64 (0, 0)) (by (with_reducible repeat (first | refine bkN ?_ _ | refine bkD ?_ | refine bkA ?_ _)); exact BK219.out)) : gb252 ≠ gb219))
                         have n9_ := Aside0.mk ((by rw [hg]; exact Nat.ne_of_lt (blk_lt (g := gb227) (o := .cells #[.int .i64 t221, .int .i64 t222, .int .i64 t223, .int .u32 t224, .int .i64 t225] 66 (0, 0)) (by (with_reducible repeat (first | refine bkN ?_ _ | refine bkD ?_ | refine bkA ?_ _)); exact BK227.out)) : gb227 ≠ gb252))
                         have n10_ := Aside0.mk ((by rw [hg]; exact Nat.ne_of_gt (blk_lt (g := gb227) (o := .cells #[.int .i64 t221, .int .i64 t222, .int .i64 t223, .int .u32 t224, .int .i64 t225] 66 (0, 0)) (by (with_reducible repeat (first | refine bkN ?_ _ | refine bkD ?_ | refine bkA ?_ _)); exact BK227.out)) : gb252 ≠ gb227))
                         have n11_ := Aside0.mk ((by rw [hg]; exact Nat.ne_of_lt (blk_lt (g := gb244) (o := .cells #[.int .i64 t238, .int .i64 t239, .int .i64 t240, .int .u32 t241, .int .i64 t242] 66 (0, 0)) (by (with_reducible repeat (first | refine bkN ?_ _ | refine bkD ?_ | refine bkA ?_ _)); exact BK244.out)) : gb244 ≠ gb252))
                         have n12_ := Aside0.mk ((by rw [hg]; exact Nat.ne_of_gt (blk_lt (g := gb244) (o := .cells #[.int .i64 t238, .int .i64 t239, .int .i64 t240, .int .u32 t241, .int .i64 t242] 66 (0, 0)) (by (with_reducible repeat (first | refine bkN ?_ _ | refine bkD ?_ | refine bkA ?_ _)); exact BK244.out)) : gb252 ≠ gb244))
                         clear BK219
                         clear BK227
                         clear BK244
                         clear HB
                         have BK219 := n0_
                         have BK227 := n1_
                         have BK244 := n2_
                         have HB := n3_
                         have BK252 := n4_
                         have GW252 := n5_
                         have GE252 := n6_
                         have NB219_252 := n7_
                         have NB252_219 := n8_
                         have NB227_252 := n9_
                         have NB252_227 := n10_
                         have NB244_252 := n11_
                         have NB252_244 := n12_
                         clear n0_ n1_ n2_ n3_ n4_ n5_ n6_ n7_ n8_ n9_ n10_ n11_ n12_
                         clear hb hbox hg
                         refine hK.out _ _ ⟨(blk_cell BK219.out 0).trans rfl, (blk_cell BK219.out 1).trans rfl⟩ (fun hHeld => ?_)
                         clear hK K
                         refine norm_ (a' := ?_) ?_ ?_
                         rotate_left
                         ·
                          show Act.put _ (some 12) _ = _
                          simp only [Act.put, List.setIfInBounds_toArray, List.set_cons_zero, List.set_cons_succ, i64_w, i32_w]
                          rfl
                         refine one_ (i := 4) (N := some 78) #[true, true, true, true, true, false, false, false, true, false, false] rfl rfl (one_of HT_.out (by kernel_rfl)) (by decide) (fun K hK => ?_)
                         refine goes_ Try.func32 (by kernel_rfl) rfl #[.slice A0 (l0.take (x11_4 : Int).toNat).length c0, .agg #[.int .u8 a1_0, .int .i64 a1_1]] (by rfl) rfl rfl (by (try simp only [List.map_toArray, List.map_cons, List.map_nil]); first | done | (rw [show (l0.take (x11_4 : Int).toNat).length = x11_4.toNat from (by rw [List.length_take]; have h_ : (x11_4 : Int) ≤ (l0.length : Int) := of_decide_eq_true (by first | (with_reducible assumption) | assumption); omega)] <;> rfl) | rfl | (simp only [List.length_drop, List.length_take]; rfl)) ?_
                         with_reducible refine (spec_Decode.calls k4 _ _ (l0.take (x11_4 : Int).toNat) a1_0 a1_1 t246 t247 t248 t249 t250 t251 _ ?side1 ?side2 A59.out).mono ?_
                         (case side1 => repeat (first | exact (Kd.C_below HR245.out HB.out) | (with_reducible refine Kd.C_alloc ?_ _) | (with_reducible refine Kd.C_drewN ?_ _) | (with_reducible refine Kd.C_drew ?_)))
                         (case side2 => exact HC245.out)
                         rintro e w85 ⟨rfl, hb⟩
                         refine ⟨_, rfl, ?_⟩
                         have n0_ := Aside0.mk (blk_below (g := gb219) (o := .cells #[.int .u8 a1_0, .int .i64 a1_1] 64 (0, 0)) (by (with_reducible repeat (first | refine bkN ?_ _ | refine bkD ?_ | refine bkA ?_ _)); exact BK219.out) hb)
                         have n1_ := Aside0.mk (blk_below (g := gb227) (o := .cells #[.int .i64 t221, .int .i64 t222, .int .i64 t223, .int .u32 t224, .int .i64 t225] 66 (0, 0)) (by (with_reducible repeat (first | refine bkN ?_ _ | refine bkD ?_ | refine bkA ?_ _)); exact BK227.out) hb)
                         have n2_ := Aside0.mk (blk_below (g := gb244) (o := .cells #[.int .i64 t238, .int .i64 t239, .int .i64 t240, .int .u32 t241, .int .i64 t242] 66 (0, 0)) (by (with_reducible repeat (first | refine bkN ?_ _ | refine bkD ?_ | refine bkA ?_ _)); exact BK244.out) hb)
                         have n3_ := Aside0.mk (blk_below (g := gb252) (o := .cells #[.int .i64 0, .int .i64 0, .int .i64 0, .int .u32 0, .int .i64 0] 66 (0, 0)) (by (with_reducible repeat (first | refine bkN ?_ _ | refine bkD ?_ | refine bkA ?_ _)); exact BK252.out) hb)
                         have n4_ := Aside0.mk (below_step (by repeat (first | (with_reducible first | exact HB.out | apply below_alloc | apply pw_below_drewN | apply below_drew1 | refine blS ?_ GE219.out | refine blS ?_ GE227.out | refine blS ?_ GE244.out | refine blS ?_ GE252.out) | exact HB.out)) hb)
                         clear BK219
                         clear BK227
                         clear BK244
                         clear BK252
                         clear HB
                         have BK219 := n0_
                         have BK227 := n1_
                         have BK244 := n2_
                         have BK252 := n3_
                         have HB := n4_
                         clear n0_ n1_ n2_ n3_ n4_
                         (try clear hb)
                         (try clear hb2)
                         (try clear hk)
                         (try clear hi)
                         refine hK.out _ _ ⟨(blk_cell BK219.out 0).trans rfl, (blk_cell BK219.out 1).trans rfl⟩ (fun hHeld => ?_)
                         clear hK K
                         refine norm_ (a' := ?_) ?_ ?_
                         rotate_left
                         ·
                          show Act.put _ (some 78) _ = _
                          simp only [Act.put, List.setIfInBounds_toArray, List.set_cons_zero, List.set_cons_succ, i64_w, i32_w]
                          rfl
                         refine pure_ (i := 5) (N := some 73) (v := ?_) (a' := ?_) #[true, true, true, true, true, true, false, false, true, false, false] rfl rfl (any_of HT_.out (by kernel_rfl)) (fun _ _ _ h => h) (Or.inl ⟨by rfl, ?_⟩) ?_ ?_
                         rotate_left
                         ·
                          intro w'
                          go_simp
                          with_reducible rfl
                         rotate_left
                         ·
                          simp only [Act.put, List.setIfInBounds_toArray, List.set_cons_zero, List.set_cons_succ, i64_w, i32_w]
                          rfl
                         refine pure_ (i := 6) (N := some 79) (v := ?_) (a' := ?_) #[true, true, true, true, true, true, true, false, true, false, false] rfl rfl (any_of HT_.out (by kernel_rfl)) (fun _ _ _ h => h) (Or.inl ⟨by rfl, ?_⟩) ?_ ?_
                         rotate_left
                         ·
                          intro w'
                          go_simp
                          with_reducible rfl
                         rotate_left
                         ·
                          simp only [Act.put, List.setIfInBounds_toArray, List.set_cons_zero, List.set_cons_succ, i64_w, i32_w]
                          rfl
                         refine pure_ (i := 7) (N := some 80) (v := ?_) (a' := ?_) #[true, true, true, true, true, true, true, true, true, false, false] rfl rfl (any_of HT_.out (by kernel_rfl)) (fun _ _ _ h => h) (Or.inl ⟨by rfl, ?_⟩) ?_ ?_
                         rotate_left
                         ·
                          intro w'
                          go_simp
                          with_reducible rfl
                         rotate_left
                         ·
                          simp only [Act.put, List.setIfInBounds_toArray, List.set_cons_zero, List.set_cons_succ, i64_w, i32_w]
                          rfl
                         exact norm_ (by simp only [putAll, Act.put, List.setIfInBounds_toArray, List.set_cons_zero, List.set_cons_succ]) (hCont (gb252) _ ⟨hHeld, (by (with_reducible repeat (first | refine bkN ?_ _ | refine bkD ?_ | refine bkA ?_ _)); exact BK219.out), (by (with_reducible repeat (first | refine bkN ?_ _ | refine bkD ?_ | refine bkA ?_ _)); exact BK227.out), (by (with_reducible repeat (first | refine bkN ?_ _ | refine bkD ?_ | refine bkA ?_ _)); exact BK244.out), (by (with_reducible repeat (first | refine bkN ?_ _ | refine bkD ?_ | refine bkA ?_ _)); exact BK252.out), GW252.out, GE252.out, NB219_252.out, NB252_219.out, NB227_252.out, NB252_227.out, NB244_252.out, NB252_244.out, (by repeat (first | (with_reducible first | exact HB.out | apply below_alloc | apply pw_below_drewN | apply below_drew1 | refine blS ?_ GE219.out | refine blS ?_ GE227.out | refine blS ?_ GE244.out | refine blS ?_ GE252.out) | exact HB.out))⟩)
                       rintro gb252 w86 ⟨hS_, h0_, h1_, h2_, h3_, h4_, h5_, h6_, h7_, h8_, h9_, h10_, h11_, h12_⟩
                       have n0_ : Aside0 (w86.heap[gb219]? = some (.cells #[.int .u8 a1_0, .int .i64 a1_1] 64 (0, 0))) := ⟨h0_⟩
                       have n1_ : Aside0 (w86.heap[gb227]? = some (.cells #[.int .i64 t221, .int .i64 t222, .int .i64 t223, .int .u32 t224, .int .i64 t225] 66 (0, 0))) := ⟨h1_⟩
                       have n2_ : Aside0 (w86.heap[gb244]? = some (.cells #[.int .i64 t238, .int .i64 t239, .int .i64 t240, .int .u32 t241, .int .i64 t242] 66 (0, 0))) := ⟨h2_⟩
                       have n3_ : Aside0 (w86.heap[gb252]? = some (.cells #[.int .i64 0, .int .i64 0, .int .i64 0, .int .u32 0, .int .i64 0] 66 (0, 0))) := ⟨h3_⟩
                       have n4_ : Aside0 (w.heap.size ≤ gb252) := ⟨h4_⟩
                       have n5_ : Aside0 (w.heap.size ≤ gb252) := ⟨h5_⟩
                       have n6_ : Aside0 (gb219 ≠ gb252) := ⟨h6_⟩
                       have n7_ : Aside0 (gb252 ≠ gb219) := ⟨h7_⟩
                       have n8_ : Aside0 (gb227 ≠ gb252) := ⟨h8_⟩
                       have n9_ : Aside0 (gb252 ≠ gb227) := ⟨h9_⟩
                       have n10_ : Aside0 (gb244 ≠ gb252) := ⟨h10_⟩
                       have n11_ : Aside0 (gb252 ≠ gb244) := ⟨h11_⟩
                       have n12_ : Aside0 (Below w.heap.size w w86) := ⟨h12_⟩
                       clear BK219
                       clear BK227
                       clear BK244
                       clear HB
                       clear h0_ h1_ h2_ h3_ h4_ h5_ h6_ h7_ h8_ h9_ h10_ h11_ h12_
                       have BK219 := n0_
                       have BK227 := n1_
                       have BK244 := n2_
                       have BK252 := n3_
                       have GW252 := n4_
                       have GE252 := n5_
                       have NB219_252 := n6_
                       have NB252_219 := n7_
                       have NB227_252 := n8_
                       have NB252_227 := n9_
                       have NB244_252 := n10_
                       have NB252_244 := n11_
                       have HB := n12_
                       clear n0_ n1_ n2_ n3_ n4_ n5_ n6_ n7_ n8_ n9_ n10_ n11_ n12_
                       have hHeld : w86.cell? ⟨gb219, 0, none⟩ = some (.int .u8 a1_0) ∧ w86.cell? ⟨gb219, 1, none⟩ = some (.int .i64 a1_1) := hS_
                       refine norm_ (a' := ?_) ?_ ?_
                       rotate_left
                       ·
                        simp only [putAll, Act.put, List.setIfInBounds_toArray, List.set_cons_zero, List.set_cons_succ]
                        rfl
                       refine one_ (i := 9) (N := none) #[true, true, true, true, true, true, true, true, true, true, false] rfl rfl (one_of HT_.out (by kernel_rfl)) (by decide) (fun K hK => ?_)
                       have hs87 : w86.cell? ⟨gb252, 0, none⟩ = some (.int .i64 0) := (blk_cell BK252.out 0).trans rfl
                       have hfs87 := blk_frozen BK252.out 0
                       have hns87_0 := NB219_252.out
                       have hns87_1 := NB227_252.out
                       have hns87_2 := NB244_252.out
                       have hms87_0 := NB252_219.out
                       have hms87_1 := NB252_227.out
                       have hms87_2 := NB252_244.out
                       have hs88 : w86.cell? ⟨gb252, 1, none⟩ = some (.int .i64 0) := (blk_cell BK252.out 1).trans rfl
                       have hfs88 := blk_frozen BK252.out 1
                       have hns88_0 := NB219_252.out
                       have hns88_1 := NB227_252.out
                       have hns88_2 := NB244_252.out
                       have hms88_0 := NB252_219.out
                       have hms88_1 := NB252_227.out
                       have hms88_2 := NB252_244.out
                       have hs89 : w86.cell? ⟨gb252, 2, none⟩ = some (.int .i64 0) := (blk_cell BK252.out 2).trans rfl
                       have hfs89 := blk_frozen BK252.out 2
                       have hns89_0 := NB219_252.out
                       have hns89_1 := NB227_252.out
                       have hns89_2 := NB244_252.out
                       have hms89_0 := NB252_219.out
                       have hms89_1 := NB252_227.out
                       have hms89_2 := NB252_244.out
                       have hs90 : w86.cell? ⟨gb252, 3, none⟩ = some (.int .u32 0) := (blk_cell BK252.out 3).trans rfl
                       have hfs90 := blk_frozen BK252.out 3
                       have hns90_0 := NB219_252.out
                       have hns90_1 := NB227_252.out
                       have hns90_2 := NB244_252.out
                       have hms90_0 := NB252_219.out
                       have hms90_1 := NB252_227.out
                       have hms90_2 := NB252_244.out
                       have hs91 : w86.cell? ⟨gb252, 4, none⟩ = some (.int .i64 0) := (blk_cell BK252.out 4).trans rfl
                       have hfs91 := blk_frozen BK252.out 4
                       have hns91_0 := NB219_252.out
                       have hns91_1 := NB227_252.out
                       have hns91_2 := NB244_252.out
                       have hms91_0 := NB252_219.out
                       have hms91_1 := NB252_227.out
                       have hms91_2 := NB252_244.out
                       refine skip_ (w1 := ?_) (by rfl) rfl ?_ ?_
                       rotate_left
                       ·
                        go_simp
                        rfl
                       refine hK.out _ _ ⟨((cell_far (p := ⟨gb252, _, none⟩) NB219_252.out _).trans (((cell_far (p := ⟨gb252, _, none⟩) NB219_252.out _).trans (((cell_far (p := ⟨gb252, _, none⟩) NB219_252.out _).trans (((cell_far (p := ⟨gb252, _, none⟩) NB219_252.out _).trans (((cell_far (p := ⟨gb252, _, none⟩) NB219_252.out _).trans (hHeld.1)))))))))), ((cell_far (p := ⟨gb252, _, none⟩) NB219_252.out _).trans (((cell_far (p := ⟨gb252, _, none⟩) NB219_252.out _).trans (((cell_far (p := ⟨gb252, _, none⟩) NB219_252.out _).trans (((cell_far (p := ⟨gb252, _, none⟩) NB219_252.out _).trans (((cell_far (p := ⟨gb252, _, none⟩) NB219_252.out _).trans (hHeld.2))))))))))⟩ (fun hHeld => ?_)
                       clear hK K
                       refine pure_ (i := 10) (N := some 13) (v := ?_) (a' := ?_) #[true, true, true, true, true, true, true, true, true, true, true] rfl rfl (any_of HT_.out (by kernel_rfl)) (fun _ _ _ h => h) (Or.inl ⟨by rfl, ?_⟩) ?_ ?_
                       rotate_left
                       ·
                        intro w'
                        go_simp
                        with_reducible rfl
                       rotate_left
                       ·
                        simp only [Act.put, List.setIfInBounds_toArray, List.set_cons_zero, List.set_cons_succ, i64_w, i32_w]
                        rfl
                       refine done_ (done_of HT_.out (by kernel_rfl)) ?_
                       have hnb92 := NB252_219.out
                       have hnc92 := NB219_252.out
                       have hnb93 := NB252_227.out
                       have hnc93 := NB227_252.out
                       have hnb94 := NB252_244.out
                       have hnc94 := NB244_252.out
                       have hcz95_0 : w86.cell? ⟨gb252, 0, none⟩ = some (.int .i64 0) := (blk_cell BK252.out 0).trans rfl
                       have hcz95_1 : w86.cell? ⟨gb252, 1, none⟩ = some (.int .i64 0) := (blk_cell BK252.out 1).trans rfl
                       have hcz95_2 : w86.cell? ⟨gb252, 2, none⟩ = some (.int .i64 0) := (blk_cell BK252.out 2).trans rfl
                       have hcz95_3 : w86.cell? ⟨gb252, 3, none⟩ = some (.int .u32 0) := (blk_cell BK252.out 3).trans rfl
                       have hcz95_4 : w86.cell? ⟨gb252, 4, none⟩ = some (.int .i64 0) := (blk_cell BK252.out 4).trans rfl
                       have hfz95_0 := blk_frozen BK252.out 0
                       have hfz95_1 := blk_frozen BK252.out 1
                       have hfz95_2 := blk_frozen BK252.out 2
                       have hfz95_3 := blk_frozen BK252.out 3
                       have hfz95_4 := blk_frozen BK252.out 4
                       try go_wp2
                       go_roundg k4
                       case measure => have := HJ5.out; have := HJ12.out; have := HJ32.out; have := HK4.out; omega
                       case rel => exact ⟨(wrap64 (x11_4 + 1)), (by first | rfl | (simp; done) | (simp [*]; done)), H', ⟨by have := HJ5.out; have := HJ12.out; have := HJ32.out; have := HK4.out; omega⟩, ⟨by (with_reducible repeat (first | refine bkN ?_ _ | refine bkD ?_ | refine bkA ?_ _)); refine blk_far ?_ NB219_252.out _; (with_reducible repeat (first | refine bkN ?_ _ | refine bkD ?_ | refine bkA ?_ _)); refine blk_far ?_ NB219_252.out _; (with_reducible repeat (first | refine bkN ?_ _ | refine bkD ?_ | refine bkA ?_ _)); refine blk_far ?_ NB219_252.out _; (with_reducible repeat (first | refine bkN ?_ _ | refine bkD ?_ | refine bkA ?_ _)); refine blk_far ?_ NB219_252.out _; (with_reducible repeat (first | refine bkN ?_ _ | refine bkD ?_ | refine bkA ?_ _)); refine blk_far ?_ NB219_252.out _; (with_reducible repeat (first | refine bkN ?_ _ | refine bkD ?_ | refine bkA ?_ _)); exact BK219.out⟩, ⟨by (with_reducible repeat (first | refine bkN ?_ _ | refine bkD ?_ | refine bkA ?_ _)); refine blk_far ?_ NB227_252.out _; (with_reducible repeat (first | refine bkN ?_ _ | refine bkD ?_ | refine bkA ?_ _)); refine blk_far ?_ NB227_252.out _; (with_reducible repeat (first | refine bkN ?_ _ | refine bkD ?_ | refine bkA ?_ _)); refine blk_far ?_ NB227_252.out _; (with_reducible repeat (first | refine bkN ?_ _ | refine bkD ?_ | refine bkA ?_ _)); refine blk_far ?_ NB227_252.out _; (with_reducible repeat (first | refine bkN ?_ _ | refine bkD ?_ | refine bkA ?_ _)); refine blk_far ?_ NB227_252.out _; (with_reducible repeat (first | refine bkN ?_ _ | refine bkD ?_ | refine bkA ?_ _)); exact BK227.out⟩, ⟨by (with_reducible repeat (first | refine bkN ?_ _ | refine bkD ?_ | refine bkA ?_ _)); refine blk_far ?_ NB244_252.out _; (with_reducible repeat (first | refine bkN ?_ _ | refine bkD ?_ | refine bkA ?_ _)); refine blk_far ?_ NB244_252.out _; (with_reducible repeat (first | refine bkN ?_ _ | refine bkD ?_ | refine bkA ?_ _)); refine blk_far ?_ NB244_252.out _; (with_reducible repeat (first | refine bkN ?_ _ | refine bkD ?_ | refine bkA ?_ _)); refine blk_far ?_ NB244_252.out _; (with_reducible repeat (first | refine bkN ?_ _ | refine bkD ?_ | refine bkA ?_ _)); refine blk_far ?_ NB244_252.out _; (with_reducible repeat (first | refine bkN ?_ _ | refine bkD ?_ | refine bkA ?_ _)); exact BK244.out⟩, ⟨by repeat (first | (with_reducible first | exact HB.out | apply below_alloc | apply pw_below_drewN | apply below_drew1 | refine blS ?_ GE219.out | refine blS ?_ GE227.out | refine blS ?_ GE244.out | refine blS ?_ GE252.out) | exact HB.out)⟩⟩
                     ·
                      rw [if_neg c60] at H
                      have c60b0 : (t251 == 3) = false := beq_eq_false_iff_ne.mpr c60
                      have c60b1 : (t251 != 3) = true := bne_iff_ne.mpr c60
                      obtain rfl := Option.some.inj H
                      have hnb96 := NB227_219.out
                      have hnc96 := NB219_227.out
                      have hnb97 := NB227_244.out
                      have hnc97 := NB244_227.out
                      have hcz98_0 : wr.cell? ⟨gb227, 0, none⟩ = some (.int .i64 t221) := (blk_cell BK227.out 0).trans rfl
                      have hcz98_1 : wr.cell? ⟨gb227, 1, none⟩ = some (.int .i64 t222) := (blk_cell BK227.out 1).trans rfl
                      have hcz98_2 : wr.cell? ⟨gb227, 2, none⟩ = some (.int .i64 t223) := (blk_cell BK227.out 2).trans rfl
                      have hcz98_3 : wr.cell? ⟨gb227, 3, none⟩ = some (.int .u32 t224) := (blk_cell BK227.out 3).trans rfl
                      have hcz98_4 : wr.cell? ⟨gb227, 4, none⟩ = some (.int .i64 t225) := (blk_cell BK227.out 4).trans rfl
                      have hfz98_0 := blk_frozen BK227.out 0
                      have hfz98_1 := blk_frozen BK227.out 1
                      have hfz98_2 := blk_frozen BK227.out 2
                      have hfz98_3 := blk_frozen BK227.out 3
                      have hfz98_4 := blk_frozen BK227.out 4
                      try go_wp2
                      have n0_ := Aside0.mk (bkD BK219.out)
                      have n1_ := Aside0.mk (bkD BK227.out)
                      have n2_ := Aside0.mk (bkD BK244.out)
                      have n3_ := Aside0.mk (below_drew1 HB.out)
                      clear BK219
                      clear BK227
                      clear BK244
                      clear HB
                      have BK219 := n0_
                      have BK227 := n1_
                      have BK244 := n2_
                      have HB := n3_
                      clear n0_ n1_ n2_ n3_
                      obtain ⟨i0100, hi0100, _, hsz100, _⟩ := info_parts info5
                      obtain ⟨hcut100, hA100, hC100⟩ := print_take_of (P := Try.prog) (Value.int .u8) 0 62 5 .i64 Try.underlying62 hi0100 hsz100 A0 c0 l0 x11_4 (of_decide_eq_true (by first | (with_reducible assumption) | assumption)) (of_decide_eq_true (by first | (with_reducible assumption) | assumption)) HC0.out
                      have HR245 := Aside0.mk (Kd.C_of_reads (h1 := fun _ => rfl) (hA100 _ (Kd.reads_of_C HR0.out)))
                      have HC245 := Aside0.mk hC100
                      clear hA100 hC100 hi0100 hsz100
                      refine start_ (n := 11) (S := fun w' => w'.cell? ⟨gb219, 0, none⟩ = some (.int .u8 a1_0) ∧ w'.cell? ⟨gb219, 1, none⟩ = some (.int .i64 a1_1)) (ds := []) #[false, false, false, false, false, false, false, false, false, false, false] (by kernel_rfl) rfl rfl ⟨(blk_cell BK219.out 0).trans rfl, (blk_cell BK219.out 1).trans rfl⟩ (fun hHeld => ?_); refine with_tabW camshaftlaw11_SpecAlone.tab16 camshaftlaw11_SpecAlone.bits16 (fun HT_ HW_ => ?_)
                      generalize wr.drew = w99 at BK219 BK227 BK244 HB HR245 hHeld ⊢
                      refine pure_ (i := 0) (N := some 74) (v := ?_) (a' := ?_) #[true, false, false, false, false, false, false, false, false, false, false] rfl rfl (any_of HT_.out (by kernel_rfl)) (fun _ _ _ h => h) (Or.inl ⟨by rfl, ?_⟩) ?_ ?_
                      rotate_left
                      ·
                       intro w'
                       go_simp
                       with_reducible rfl
                      rotate_left
                      ·
                       simp only [Act.put, List.setIfInBounds_toArray, List.set_cons_zero, List.set_cons_succ, i64_w, i32_w]
                       rfl
                      refine pure_ (i := 1) (N := some 75) (v := ?_) (a' := ?_) #[true, true, false, false, false, false, false, false, false, false, false] rfl rfl (any_of HT_.out (by kernel_rfl)) (fun _ _ _ h => h) (Or.inl ⟨by rfl, ?_⟩) ?_ ?_
                      rotate_left
                      ·
                       intro w'
                       go_simp
                       with_reducible rfl
                      rotate_left
                      ·
                       simp only [Act.put, List.setIfInBounds_toArray, List.set_cons_zero, List.set_cons_succ, i64_w, i32_w]
                       rfl
                      refine pure_ (i := 2) (N := some 76) (v := ?_) (a' := ?_) #[true, true, true, false, false, false, false, false, false, false, false] rfl rfl (any_of HT_.out (by kernel_rfl)) (fun _ _ _ h => h) (Or.inl ⟨by rfl, ?_⟩) ?_ ?_
                      rotate_left
                      ·
                       intro w'
                       go_simp
                       with_reducible rfl
                      rotate_left
                      ·
                       simp only [Act.put, List.setIfInBounds_toArray, List.set_cons_zero, List.set_cons_succ, i64_w, i32_w]
                       rfl
                      refine take_ (i := 3) (N := some 77) (v := ?_) (a' := ?_) #[true, true, true, true, false, false, false, false, false, false, false] rfl rfl (take_ofW HT_.out HW_.out (by kernel_rfl)) (fun _ _ _ h => h) (Or.inl ⟨by rfl, ?_⟩) hHeld ?_ ?_
                      rotate_left
                      ·
                       rintro w' ⟨s0, s1⟩
                       go_simp
                       with_reducible rfl
                      rotate_left
                      ·
                       simp only [Act.put, List.setIfInBounds_toArray, List.set_cons_zero, List.set_cons_succ, i64_w, i32_w]
                       rfl
                      refine join_ (σ := Nat) 2 #[true, true, true, true, true, true, true, true, true, false, false] (fun s_ => [(78, .tuple #[.agg #[.int .i64 t246, .int .i64 t247, .int .i64 t248, .int .u32 t249, .int .i64 t250], .int .i64 t251]), (12, .pointer (some ⟨s_, 0, none⟩)), (73, .tuple #[.agg #[.int .i64 t246, .int .i64 t247, .int .i64 t248, .int .u32 t249, .int .i64 t250], .int .i64 t251]), (79, .agg #[.int .i64 t246, .int .i64 t247, .int .i64 t248, .int .u32 t249, .int .i64 t250]), (80, .int .i64 t251)]) (fun s_ w' => (w'.cell? ⟨gb219, 0, none⟩ = some (.int .u8 a1_0) ∧ w'.cell? ⟨gb219, 1, none⟩ = some (.int .i64 a1_1)) ∧ (w'.heap[gb219]? = some (.cells #[.int .u8 a1_0, .int .i64 a1_1] 64 (0, 0))) ∧ (w'.heap[gb227]? = some (.cells #[.int .i64 t221, .int .i64 t222, .int .i64 t223, .int .u32 t224, .int .i64 t225] 66 (0, 0))) ∧ (w'.heap[gb244]? = some (.cells #[.int .i64 t238, .int .i64 t239, .int .i64 t240, .int .u32 t241, .int .i64 t242] 66 (0, 0))) ∧ (w'.heap[s_]? = some (.cells #[.int .i64 0, .int .i64 0, .int .i64 0, .int .u32 0, .int .i64 0] 66 (0, 0))) ∧ (w.heap.size ≤ s_) ∧ (w.heap.size ≤ s_) ∧ (gb219 ≠ s_) ∧ (s_ ≠ gb219) ∧ (gb227 ≠ s_) ∧ (s_ ≠ gb227) ∧ (gb244 ≠ s_) ∧ (s_ ≠ gb244) ∧ (Below w.heap.size w w')) ?_ ?_
                      rotate_left
                      ·
                       intro hCont
                       refine two_ (i := 4) (j := 8) (Ni := some 78) (Nj := some 12) #[true, true, true, true, true, false, false, false, false, false, false] #[true, true, true, true, false, false, false, false, true, false, false] rfl rfl rfl rfl (two_of HT_.out (by kernel_rfl)) (by decide) (by decide) (fun K hK => ?_) (fun K hK => ?_)
                       ·
                        skip
                        refine goes_ Try.func32 (by kernel_rfl) rfl #[.slice A0 (l0.take (x11_4 : Int).toNat).length c0, .agg #[.int .u8 a1_0, .int .i64 a1_1]] (by rfl) rfl rfl (by (try simp only [List.map_toArray, List.map_cons, List.map_nil]); first | done | (rw [show (l0.take (x11_4 : Int).toNat).length = x11_4.toNat from (by rw [List.length_take]; have h_ : (x11_4 : Int) ≤ (l0.length : Int) := of_decide_eq_true (by first | (with_reducible assumption) | assumption); omega)] <;> rfl) | rfl | (simp only [List.length_drop, List.length_take]; rfl)) ?_
                        with_reducible refine (spec_Decode.calls k4 _ _ (l0.take (x11_4 : Int).toNat) a1_0 a1_1 t246 t247 t248 t249 t250 t251 _ ?side1 ?side2 A59.out).mono ?_
                        (case side1 => repeat (first | exact (Kd.C_below HR245.out HB.out) | (with_reducible refine Kd.C_alloc ?_ _) | (with_reducible refine Kd.C_drewN ?_ _) | (with_reducible refine Kd.C_drew ?_)))
                        (case side2 => exact HC245.out)
                        rintro e w101 ⟨rfl, hb⟩
                        refine ⟨_, rfl, ?_⟩
                        have n0_ := Aside0.mk (blk_below (g := gb219) (o := .cells #[.int .u8 a1_0, .int .i64 a1_1] 64 (0, 0)) (by (with_reducible repeat (first | refine bkN ?_ _ | refine bkD ?_ | refine bkA ?_ _)); exact BK219.out) hb)
                        have n1_ := Aside0.mk (blk_below (g := gb227) (o := .cells #[.int .i64 t221, .int .i64 t222, .int .i64 t223, .int .u32 t224, .int .i64 t225] 66 (0, 0)) (by (with_reducible repeat (first | refine bkN ?_ _ | refine bkD ?_ | refine bkA ?_ _)); exact BK227.out) hb)
                        have n2_ := Aside0.mk (blk_below (g := gb244) (o := .cells #[.int .i64 t238, .int .i64 t239, .int .i64 t240, .int .u32 t241, .int .i64 t242] 66 (0, 0)) (by (with_reducible repeat (first | refine bkN ?_ _ | refine bkD ?_ | refine bkA ?_ _)); exact BK244.out) hb)
                        have n3_ := Aside0.mk (below_step (by repeat (first | (with_reducible first | exact HB.out | apply below_alloc | apply pw_below_drewN | apply below_drew1 | refine blS ?_ GE219.out | refine blS ?_ GE227.out | refine blS ?_ GE244.out) | exact HB.out)) hb)
                        clear BK219
                        clear BK227
                        clear BK244
                        clear HB
                        have BK219 := n0_
                        have BK227 := n1_
                        have BK244 := n2_
                        have HB := n3_
                        clear n0_ n1_ n2_ n3_
                        (try clear hb)
                        (try clear hb2)
                        (try clear hk)
                        (try clear hi)
                        refine hK.out _ _ ⟨(blk_cell BK219.out 0).trans rfl, (blk_cell BK219.out 1).trans rfl⟩ (fun hHeld => ?_)
                        clear hK K
                        refine norm_ (a' := ?_) ?_ ?_
                        rotate_left
                        ·
                         show Act.put _ (some 78) _ = _
                         simp only [Act.put, List.setIfInBounds_toArray, List.set_cons_zero, List.set_cons_succ, i64_w, i32_w]
                         rfl
                        refine pure_ (i := 5) (N := some 73) (v := ?_) (a' := ?_) #[true, true, true, true, true, true, false, false, false, false, false] rfl rfl (any_of HT_.out (by kernel_rfl)) (fun _ _ _ h => h) (Or.inl ⟨by rfl, ?_⟩) ?_ ?_
                        rotate_left
                        ·
                         intro w'
                         go_simp
                         with_reducible rfl
                        rotate_left
                        ·
                         simp only [Act.put, List.setIfInBounds_toArray, List.set_cons_zero, List.set_cons_succ, i64_w, i32_w]
                         rfl
                        refine pure_ (i := 6) (N := some 79) (v := ?_) (a' := ?_) #[true, true, true, true, true, true, true, false, false, false, false] rfl rfl (any_of HT_.out (by kernel_rfl)) (fun _ _ _ h => h) (Or.inl ⟨by rfl, ?_⟩) ?_ ?_
                        rotate_left
                        ·
                         intro w'
                         go_simp
                         with_reducible rfl
                        rotate_left
                        ·
                         simp only [Act.put, List.setIfInBounds_toArray, List.set_cons_zero, List.set_cons_succ, i64_w, i32_w]
                         rfl
                        refine pure_ (i := 7) (N := some 80) (v := ?_) (a' := ?_) #[true, true, true, true, true, true, true, true, false, false, false] rfl rfl (any_of HT_.out (by kernel_rfl)) (fun _ _ _ h => h) (Or.inl ⟨by rfl, ?_⟩) ?_ ?_
                        rotate_left
                        ·
                         intro w'
                         go_simp
                         with_reducible rfl
                        rotate_left
                        ·
                         simp only [Act.put, List.setIfInBounds_toArray, List.set_cons_zero, List.set_cons_succ, i64_w, i32_w]
                         rfl
                        refine one_ (i := 8) (N := some 12) #[true, true, true, true, true, true, true, true, true, false, false] rfl rfl (one_of HT_.out (by kernel_rfl)) (by decide) (fun K hK => ?_)
                        refine box_step ?hg (N := 12) ?hd (cs := #[.int .i64 0, .int .i64 0, .int .i64 0, .int .u32 0, .int .i64 0]) (t := 66) ?hr ?_; (case hd => rfl); (case hg => rfl); (case hr => first | (go_simp; done) | (go_simp; rfl))
                        intro gb252 hg w102 hbox hb
                        have n0_ := Aside0.mk (blk_below (g := gb219) (o := .cells #[.int .u8 a1_0, .int .i64 a1_1] 64 (0, 0)) (by (with_reducible repeat (first | refine bkN ?_ _ | refine bkD ?_ | refine bkA ?_ _)); exact BK219.out) hb)
                        have n1_ := Aside0.mk (blk_below (g := gb227) (o := .cells #[.int .i64 t221, .int .i64 t222, .int .i64 t223, .int .u32 t224, .int .i64 t225] 66 (0, 0)) (by (with_reducible repeat (first | refine bkN ?_ _ | refine bkD ?_ | refine bkA ?_ _)); exact BK227.out) hb)
                        have n2_ := Aside0.mk (blk_below (g := gb244) (o := .cells #[.int .i64 t238, .int .i64 t239, .int .i64 t240, .int .u32 t241, .int .i64 t242] 66 (0, 0)) (by (with_reducible repeat (first | refine bkN ?_ _ | refine bkD ?_ | refine bkA ?_ _)); exact BK244.out) hb)
                        have n3_ := Aside0.mk (below_step (by repeat (first | (with_reducible first | exact HB.out | apply below_alloc | apply pw_below_drewN | apply below_drew1 | refine blS ?_ GE219.out | refine blS ?_ GE227.out | refine blS ?_ GE244.out) | exact HB.out)) hb)
                        have n4_ := Aside0.mk (hbox)
                        have n5_ := Aside0.mk ((by rw [hg]; exact (below_size (by repeat (first | (with_reducible first | exact HB.out | apply below_alloc | apply pw_below_drewN | apply below_drew1 | refine blS ?_ GE219.out | refine blS ?_ GE227.out | refine blS ?_ GE244.out) | exact HB.out))) : w.heap.size ≤ gb252))
                        have n6_ := Aside0.mk ((by rw [hg]; exact (below_size (by repeat (first | (with_reducible first | exact HB.out | apply below_alloc | apply pw_below_drewN | apply below_drew1 | refine blS ?_ GE219.out | refine blS ?_ GE227.out | refine blS ?_ GE244.out) | exact HB.out))) : w.heap.size ≤ gb252))
                        have n7_ := Aside0.mk ((by rw [hg]; exact Nat.ne_of_lt (blk_lt (g := gb219) (o := .cells #[.int .u8 a1_0, .int .i64 a1_1] 64 (0, 0)) (by (with_reducible repeat (first | refine bkN ?_ _ | refine bkD ?_ | refine bkA ?_ _)); exact BK219.out)) : gb219 ≠ gb252))
                        have n8_ := Aside0.mk ((by rw [hg]; exact Nat.ne_of_gt (blk_lt (g := gb219) (o := .cells #[.int .u8 a1_0, .int .i64 a1_1] 64 (0, 0)) (by (with_reducible repeat (first | refine bkN ?_ _ | refine bkD ?_ | refine bkA ?_ _)); exact BK219.out)) : gb252 ≠ gb219))
                        have n9_ := Aside0.mk ((by rw [hg]; exact Nat.ne_of_lt (blk_lt (g := gb227) (o := .cells #[.int .i64 t221, .int .i64 t222, .int .i64 t223, .int .u32 t224, .int .i64 t225] 66 (0, 0)) (by (with_reducible repeat (first | refine bkN ?_ _ | refine bkD ?_ | refine bkA ?_ _)); exact BK227.out)) : gb227 ≠ gb252))
                        have n10_ := Aside0.mk ((by rw [hg]; exact Nat.ne_of_gt (blk_lt (g := gb227) (o := .cells #[.int .i64 t221, .int .i64 t222, .int .i64 t223, .int .u32 t224, .int .i64 t225] 66 (0, 0)) (by (with_reducible repeat (first | refine bkN ?_ _ | refine bkD ?_ | refine bkA ?_ _)); exact BK227.out)) : gb252 ≠ gb227))
                        have n11_ := Aside0.mk ((by rw [hg]; exact Nat.ne_of_lt (blk_lt (g := gb244) (o := .cells #[.int .i64 t238, .int .i64 t239, .int .i64 t240, .int .u32 t241, .int .i64 t242] 66 (0, 0)) (by (with_reducible repeat (first | refine bkN ?_ _ | refine bkD ?_ | refine bkA ?_ _)); exact BK244.out)) : gb244 ≠ gb252))
                        have n12_ := Aside0.mk ((by rw [hg]; exact Nat.ne_of_gt (blk_lt (g := gb244) (o := .cells #[.int .i64 t238, .int .i64 t239, .int .i64 t240, .int .u32 t241, .int .i64 t242] 66 (0, 0)) (by (with_reducible repeat (first | refine bkN ?_ _ | refine bkD ?_ | refine bkA ?_ _)); exact BK244.out)) : gb252 ≠ gb244))
                        clear BK219
                        clear BK227
                        clear BK244
                        clear HB
                        have BK219 := n0_
                        have BK227 := n1_
                        have BK244 := n2_
                        have HB := n3_
                        have BK252 := n4_
                        have GW252 := n5_
                        have GE252 := n6_
                        have NB219_252 := n7_
                        have NB252_219 := n8_
                        have NB227_252 := n9_
                        have NB252_227 := n10_
                        have NB244_252 := n11_
                        have NB252_244 := n12_
                        clear n0_ n1_ n2_ n3_ n4_ n5_ n6_ n7_ n8_ n9_ n10_ n11_ n12_
                        clear hb hbox hg
                        refine hK.out _ _ ⟨(blk_cell BK219.out 0).trans rfl, (blk_cell BK219.out 1).trans rfl⟩ (fun hHeld => ?_)
                        clear hK K
                        refine norm_ (a' := ?_) ?_ ?_
                        rotate_left
                        ·
                         show Act.put _ (some 12) _ = _
                         simp only [Act.put, List.setIfInBounds_toArray, List.set_cons_zero, List.set_cons_succ, i64_w, i32_w]
                         rfl
                        exact norm_ (by simp only [putAll, Act.put, List.setIfInBounds_toArray, List.set_cons_zero, List.set_cons_succ]) (hCont (gb252) _ ⟨hHeld, (by (with_reducible repeat (first | refine bkN ?_ _ | refine bkD ?_ | refine bkA ?_ _)); exact BK219.out), (by (with_reducible repeat (first | refine bkN ?_ _ | refine bkD ?_ | refine bkA ?_ _)); exact BK227.out), (by (with_reducible repeat (first | refine bkN ?_ _ | refine bkD ?_ | refine bkA ?_ _)); exact BK244.out), (by (with_reducible repeat (first | refine bkN ?_ _ | refine bkD ?_ | refine bkA ?_ _)); exact BK252.out), GW252.out, GE252.out, NB219_252.out, NB252_219.out, NB227_252.out, NB252_227.out, NB244_252.out, NB252_244.out, (by repeat (first | (with_reducible first | exact HB.out | apply below_alloc | apply pw_below_drewN | apply below_drew1 | refine blS ?_ GE219.out | refine blS ?_ GE227.out | refine blS ?_ GE244.out | refine blS ?_ GE252.out) | exact HB.out))⟩)
                       ·
                        skip
                        refine box_step ?hg (N := 12) ?hd (cs := #[.int .i64 0, .int .i64 0, .int .i64 0, .int .u32 0, .int .i64 0]) (t := 66) ?hr ?_; (case hd => rfl); (case hg => rfl); (case hr => first | (go_simp; done) | (go_simp; rfl))
                        intro gb252 hg w101 hbox hb
                        have n0_ := Aside0.mk (blk_below (g := gb219) (o := .cells #[.int .u8 a1_0, .int .i64 a1_1] 64 (0, 0)) (by (with_reducible repeat (first | refine bkN ?_ _ | refine bkD ?_ | refine bkA ?_ _)); exact BK219.out) hb)
                        have n1_ := Aside0.mk (blk_below (g := gb227) (o := .cells #[.int .i64 t221, .int .i64 t222, .int .i64 t223, .int .u32 t224, .int .i64 t225] 66 (0, 0)) (by (with_reducible repeat (first | refine bkN ?_ _ | refine bkD ?_ | refine bkA ?_ _)); exact BK227.out) hb)
                        have n2_ := Aside0.mk (blk_below (g := gb244) (o := .cells #[.int .i64 t238, .int .i64 t239, .int .i64 t240, .int .u32 t241, .int .i64 t242] 66 (0, 0)) (by (with_reducible repeat (first | refine bkN ?_ _ | refine bkD ?_ | refine bkA ?_ _)); exact BK244.out) hb)
                        have n3_ := Aside0.mk (below_step (by repeat (first | (with_reducible first | exact HB.out | apply below_alloc | apply pw_below_drewN | apply below_drew1 | refine blS ?_ GE219.out | refine blS ?_ GE227.out | refine blS ?_ GE244.out) | exact HB.out)) hb)
                        have n4_ := Aside0.mk (hbox)
                        have n5_ := Aside0.mk ((by rw [hg]; exact (below_size (by repeat (first | (with_reducible first | exact HB.out | apply below_alloc | apply pw_below_drewN | apply below_drew1 | refine blS ?_ GE219.out | refine blS ?_ GE227.out | refine blS ?_ GE244.out) | exact HB.out))) : w.heap.size ≤ gb252))
                        have n6_ := Aside0.mk ((by rw [hg]; exact (below_size (by repeat (first | (with_reducible first | exact HB.out | apply below_alloc | apply pw_below_drewN | apply below_drew1 | refine blS ?_ GE219.out | refine blS ?_ GE227.out | refine blS ?_ GE244.out) | exact HB.out))) : w.heap.size ≤ gb252))
                        have n7_ := Aside0.mk ((by rw [hg]; exact Nat.ne_of_lt (blk_lt (g := gb219) (o := .cells #[.int .u8 a1_0, .int .i64 a1_1] 64 (0, 0)) (by (with_reducible repeat (first | refine bkN ?_ _ | refine bkD ?_ | refine bkA ?_ _)); exact BK219.out)) : gb219 ≠ gb252))
                        have n8_ := Aside0.mk ((by rw [hg]; exact Nat.ne_of_gt (blk_lt (g := gb219) (o := .cells #[.int .u8 a1_0, .int .i64 a1_1] 64 (0, 0)) (by (with_reducible repeat (first | refine bkN ?_ _ | refine bkD ?_ | refine bkA ?_ _)); exact BK219.out)) : gb252 ≠ gb219))
                        have n9_ := Aside0.mk ((by rw [hg]; exact Nat.ne_of_lt (blk_lt (g := gb227) (o := .cells #[.int .i64 t221, .int .i64 t222, .int .i64 t223, .int .u32 t224, .int .i64 t225] 66 (0, 0)) (by (with_reducible repeat (first | refine bkN ?_ _ | refine bkD ?_ | refine bkA ?_ _)); exact BK227.out)) : gb227 ≠ gb252))
                        have n10_ := Aside0.mk ((by rw [hg]; exact Nat.ne_of_gt (blk_lt (g := gb227) (o := .cells #[.int .i64 t221, .int .i64 t222, .int .i64 t223, .int .u32 t224, .int .i64 t225] 66 (0, 0)) (by (with_reducible repeat (first | refine bkN ?_ _ | refine bkD ?_ | refine bkA ?_ _)); exact BK227.out)) : gb252 ≠ gb227))
                        have n11_ := Aside0.mk ((by rw [hg]; exact Nat.ne_of_lt (blk_lt (g := gb244) (o := .cells #[.int .i64 t238, .int .i64 t239, .int .i64 t240, .int .u32 t241, .int .i64 t242] 66 (0, 0)) (by (with_reducible repeat (first | refine bkN ?_ _ | refine bkD ?_ | refine bkA ?_ _)); exact BK244.out)) : gb244 ≠ gb252))
                        have n12_ := Aside0.mk ((by rw [hg]; exact Nat.ne_of_gt (blk_lt (g := gb244) (o := .cells #[.int .i64 t238, .int .i64 t239, .int .i64 t240, .int .u32 t241, .int .i64 t242] 66 (0, 0)) (by (with_reducible repeat (first | refine bkN ?_ _ | refine bkD ?_ | refine bkA ?_ _)); exact BK244.out)) : gb252 ≠ gb244))
                        clear BK219
                        clear BK227
                        clear BK244
                        clear HB
                        have BK219 := n0_
                        have BK227 := n1_
                        have BK244 := n2_
                        have HB := n3_
                        have BK252 := n4_
                        have GW252 := n5_
                        have GE252 := n6_
                        have NB219_252 := n7_
                        have NB252_219 := n8_
                        have NB227_252 := n9_
                        have NB252_227 := n10_
                        have NB244_252 := n11_
                        have NB252_244 := n12_
                        clear n0_ n1_ n2_ n3_ n4_ n5_ n6_ n7_ n8_ n9_ n10_ n11_ n12_
                        clear hb hbox hg
                        refine hK.out _ _ ⟨(blk_cell BK219.out 0).trans rfl, (blk_cell BK219.out 1).trans rfl⟩ (fun hHeld => ?_)
                        clear hK K
                        refine norm_ (a' := ?_) ?_ ?_
                        rotate_left
                        ·
                         show Act.put _ (some 12) _ = _
                         simp only [Act.put, List.setIfInBounds_toArray, List.set_cons_zero, List.set_cons_succ, i64_w, i32_w]
                         rfl
                        refine one_ (i := 4) (N := some 78) #[true, true, true, true, true, false, false, false, true, false, false] rfl rfl (one_of HT_.out (by kernel_rfl)) (by decide) (fun K hK => ?_)
                        refine goes_ Try.func32 (by kernel_rfl) rfl #[.slice A0 (l0.take (x11_4 : Int).toNat).length c0, .agg #[.int .u8 a1_0, .int .i64 a1_1]] (by rfl) rfl rfl (by (try simp only [List.map_toArray, List.map_cons, List.map_nil]); first | done | (rw [show (l0.take (x11_4 : Int).toNat).length = x11_4.toNat from (by rw [List.length_take]; have h_ : (x11_4 : Int) ≤ (l0.length : Int) := of_decide_eq_true (by first | (with_reducible assumption) | assumption); omega)] <;> rfl) | rfl | (simp only [List.length_drop, List.length_take]; rfl)) ?_
                        with_reducible refine (spec_Decode.calls k4 _ _ (l0.take (x11_4 : Int).toNat) a1_0 a1_1 t246 t247 t248 t249 t250 t251 _ ?side1 ?side2 A59.out).mono ?_
                        (case side1 => repeat (first | exact (Kd.C_below HR245.out HB.out) | (with_reducible refine Kd.C_alloc ?_ _) | (with_reducible refine Kd.C_drewN ?_ _) | (with_reducible refine Kd.C_drew ?_)))
                        (case side2 => exact HC245.out)
                        rintro e w102 ⟨rfl, hb⟩
                        refine ⟨_, rfl, ?_⟩
                        have n0_ := Aside0.mk (blk_below (g := gb219) (o := .cells #[.int .u8 a1_0, .int .i64 a1_1] 64 (0, 0)) (by (with_reducible repeat (first | refine bkN ?_ _ | refine bkD ?_ | refine bkA ?_ _)); exact BK219.out) hb)
                        have n1_ := Aside0.mk (blk_below (g := gb227) (o := .cells #[.int .i64 t221, .int .i64 t222, .int .i64 t223, .int .u32 t224, .int .i64 t225] 66 (0, 0)) (by (with_reducible repeat (first | refine bkN ?_ _ | refine bkD ?_ | refine bkA ?_ _)); exact BK227.out) hb)
                        have n2_ := Aside0.mk (blk_below (g := gb244) (o := .cells #[.int .i64 t238, .int .i64 t239, .int .i64 t240, .int .u32 t241, .int .i64 t242] 66 (0, 0)) (by (with_reducible repeat (first | refine bkN ?_ _ | refine bkD ?_ | refine bkA ?_ _)); exact BK244.out) hb)
                        have n3_ := Aside0.mk (blk_below (g := gb252) (o := .cells #[.int .i64 0, .int .i64 0, .int .i64 0, .int .u32 0, .int .i64 0] 66 (0, 0)) (by (with_reducible repeat (first | refine bkN ?_ _ | refine bkD ?_ | refine bkA ?_ _)); exact BK252.out) hb)
                        have n4_ := Aside0.mk (below_step (by repeat (first | (with_reducible first | exact HB.out | apply below_alloc | apply pw_below_drewN | apply below_drew1 | refine blS ?_ GE219.out | refine blS ?_ GE227.out | refine blS ?_ GE244.out | refine blS ?_ GE252.out) | exact HB.out)) hb)
                        clear BK219
                        clear BK227
                        clear BK244
                        clear BK252
                        clear HB
                        have BK219 := n0_
                        have BK227 := n1_
                        have BK244 := n2_
                        have BK252 := n3_
                        have HB := n4_
                        clear n0_ n1_ n2_ n3_ n4_
                        (try clear hb)
                        (try clear hb2)
                        (try clear hk)
                        (try clear hi)
                        refine hK.out _ _ ⟨(blk_cell BK219.out 0).trans rfl, (blk_cell BK219.out 1).trans rfl⟩ (fun hHeld => ?_)
                        clear hK K
                        refine norm_ (a' := ?_) ?_ ?_
                        rotate_left
                        ·
                         show Act.put _ (some 78) _ = _
                         simp only [Act.put, List.setIfInBounds_toArray, List.set_cons_zero, List.set_cons_succ, i64_w, i32_w]
                         rfl
                        refine pure_ (i := 5) (N := some 73) (v := ?_) (a' := ?_) #[true, true, true, true, true, true, false, false, true, false, false] rfl rfl (any_of HT_.out (by kernel_rfl)) (fun _ _ _ h => h) (Or.inl ⟨by rfl, ?_⟩) ?_ ?_
                        rotate_left
                        ·
                         intro w'
                         go_simp
                         with_reducible rfl
                        rotate_left
                        ·
                         simp only [Act.put, List.setIfInBounds_toArray, List.set_cons_zero, List.set_cons_succ, i64_w, i32_w]
                         rfl
                        refine pure_ (i := 6) (N := some 79) (v := ?_) (a' := ?_) #[true, true, true, true, true, true, true, false, true, false, false] rfl rfl (any_of HT_.out (by kernel_rfl)) (fun _ _ _ h => h) (Or.inl ⟨by rfl, ?_⟩) ?_ ?_
                        rotate_left
                        ·
                         intro w'
                         go_simp
                         with_reducible rfl
                        rotate_left
                        ·
                         simp only [Act.put, List.setIfInBounds_toArray, List.set_cons_zero, List.set_cons_succ, i64_w, i32_w]
                         rfl
                        refine pure_ (i := 7) (N := some 80) (v := ?_) (a' := ?_) #[true, true, true, true, true, true, true, true, true, false, false] rfl rfl (any_of HT_.out (by kernel_rfl)) (fun _ _ _ h => h) (Or.inl ⟨by rfl, ?_⟩) ?_ ?_
                        rotate_left
                        ·
                         intro w'
                         go_simp
                         with_reducible rfl
                        rotate_left
                        ·
                         simp only [Act.put, List.setIfInBounds_toArray, List.set_cons_zero, List.set_cons_succ, i64_w, i32_w]
                         rfl
                        exact norm_ (by simp only [putAll, Act.put, List.setIfInBounds_toArray, List.set_cons_zero, List.set_cons_succ]) (hCont (gb252) _ ⟨hHeld, (by (with_reducible repeat (first | refine bkN ?_ _ | refine bkD ?_ | refine bkA ?_ _)); exact BK219.out), (by (with_reducible repeat (first | refine bkN ?_ _ | refine bkD ?_ | refine bkA ?_ _)); exact BK227.out), (by (with_reducible repeat (first | refine bkN ?_ _ | refine bkD ?_ | refine bkA ?_ _)); exact BK244.out), (by (with_reducible repeat (first | refine bkN ?_ _ | refine bkD ?_ | refine bkA ?_ _)); exact BK252.out), GW252.out, GE252.out, NB219_252.out, NB252_219.out, NB227_252.out, NB252_227.out, NB244_252.out, NB252_244.out, (by repeat (first | (with_reducible first | exact HB.out | apply below_alloc | apply pw_below_drewN | apply below_drew1 | refine blS ?_ GE219.out | refine blS ?_ GE227.out | refine blS ?_ GE244.out | refine blS ?_ GE252.out) | exact HB.out))⟩)
                      rintro gb252 w103 ⟨hS_, h0_, h1_, h2_, h3_, h4_, h5_, h6_, h7_, h8_, h9_, h10_, h11_, h12_⟩
                      have n0_ : Aside0 (w103.heap[gb219]? = some (.cells #[.int .u8 a1_0, .int .i64 a1_1] 64 (0, 0))) := ⟨h0_⟩
                      have n1_ : Aside0 (w103.heap[gb227]? = some (.cells #[.int .i64 t221, .int .i64 t222, .int .i64 t223, .int .u32 t224, .int .i64 t225] 66 (0, 0))) := ⟨h1_⟩
                      have n2_ : Aside0 (w103.heap[gb244]? = some (.cells #[.int .i64 t238, .int .i64 t239, .int .i64 t240, .int .u32 t241, .int .i64 t242] 66 (0, 0))) := ⟨h2_⟩
                      have n3_ : Aside0 (w103.heap[gb252]? = some (.cells #[.int .i64 0, .int .i64 0, .int .i64 0, .int .u32 0, .int .i64 0] 66 (0, 0))) := ⟨h3_⟩
                      have n4_ : Aside0 (w.heap.size ≤ gb252) := ⟨h4_⟩
                      have n5_ : Aside0 (w.heap.size ≤ gb252) := ⟨h5_⟩
                      have n6_ : Aside0 (gb219 ≠ gb252) := ⟨h6_⟩
                      have n7_ : Aside0 (gb252 ≠ gb219) := ⟨h7_⟩
                      have n8_ : Aside0 (gb227 ≠ gb252) := ⟨h8_⟩
                      have n9_ : Aside0 (gb252 ≠ gb227) := ⟨h9_⟩
                      have n10_ : Aside0 (gb244 ≠ gb252) := ⟨h10_⟩
                      have n11_ : Aside0 (gb252 ≠ gb244) := ⟨h11_⟩
                      have n12_ : Aside0 (Below w.heap.size w w103) := ⟨h12_⟩
                      clear BK219
                      clear BK227
                      clear BK244
                      clear HB
                      clear h0_ h1_ h2_ h3_ h4_ h5_ h6_ h7_ h8_ h9_ h10_ h11_ h12_
                      have BK219 := n0_
                      have BK227 := n1_
                      have BK244 := n2_
                      have BK252 := n3_
                      have GW252 := n4_
                      have GE252 := n5_
                      have NB219_252 := n6_
                      have NB252_219 := n7_
                      have NB227_252 := n8_
                      have NB252_227 := n9_
                      have NB244_252 := n10_
                      have NB252_244 := n11_
                      have HB := n12_
                      clear n0_ n1_ n2_ n3_ n4_ n5_ n6_ n7_ n8_ n9_ n10_ n11_ n12_
                      have hHeld : w103.cell? ⟨gb219, 0, none⟩ = some (.int .u8 a1_0) ∧ w103.cell? ⟨gb219, 1, none⟩ = some (.int .i64 a1_1) := hS_
                      refine norm_ (a' := ?_) ?_ ?_
                      rotate_left
                      ·
                       simp only [putAll, Act.put, List.setIfInBounds_toArray, List.set_cons_zero, List.set_cons_succ]
                       rfl
                      refine one_ (i := 9) (N := none) #[true, true, true, true, true, true, true, true, true, true, false] rfl rfl (one_of HT_.out (by kernel_rfl)) (by decide) (fun K hK => ?_)
                      have hs104 : w103.cell? ⟨gb252, 0, none⟩ = some (.int .i64 0) := (blk_cell BK252.out 0).trans rfl
                      have hfs104 := blk_frozen BK252.out 0
                      have hns104_0 := NB219_252.out
                      have hns104_1 := NB227_252.out
                      have hns104_2 := NB244_252.out
                      have hms104_0 := NB252_219.out
                      have hms104_1 := NB252_227.out
                      have hms104_2 := NB252_244.out
                      have hs105 : w103.cell? ⟨gb252, 1, none⟩ = some (.int .i64 0) := (blk_cell BK252.out 1).trans rfl
                      have hfs105 := blk_frozen BK252.out 1
                      have hns105_0 := NB219_252.out
                      have hns105_1 := NB227_252.out
                      have hns105_2 := NB244_252.out
                      have hms105_0 := NB252_219.out
                      have hms105_1 := NB252_227.out
                      have hms105_2 := NB252_244.out
                      have hs106 : w103.cell? ⟨gb252, 2, none⟩ = some (.int .i64 0) := (blk_cell BK252.out 2).trans rfl
                      have hfs106 := blk_frozen BK252.out 2
                      have hns106_0 := NB219_252.out
                      have hns106_1 := NB227_252.out
                      have hns106_2 := NB244_252.out
                      have hms106_0 := NB252_219.out
                      have hms106_1 := NB252_227.out
                      have hms106_2 := NB252_244.out
                      have hs107 : w103.cell? ⟨gb252, 3, none⟩ = some (.int .u32 0) := (blk_cell BK252.out 3).trans rfl
                      have hfs107 := blk_frozen BK252.out 3
                      have hns107_0 := NB219_252.out
                      have hns107_1 := NB227_252.out
                      have hns107_2 := NB244_252.out
                      have hms107_0 := NB252_219.out
                      have hms107_1 := NB252_227.out
                      have hms107_2 := NB252_244.out
                      have hs108 : w103.cell? ⟨gb252, 4, none⟩ = some (.int .i64 0) := (blk_cell BK252.out 4).trans rfl
                      have hfs108 := blk_frozen BK252.out 4
                      have hns108_0 := NB219_252.out
                      have hns108_1 := NB227_252.out
                      have hns108_2 := NB244_252.out
                      have hms108_0 := NB252_219.out
                      have hms108_1 := NB252_227.out
                      have hms108_2 := NB252_244.out
                      refine skip_ (w1 := ?_) (by rfl) rfl ?_ ?_
                      rotate_left
                      ·
                       go_simp
                       rfl
                      refine hK.out _ _ ⟨((cell_far (p := ⟨gb252, _, none⟩) NB219_252.out _).trans (((cell_far (p := ⟨gb252, _, none⟩) NB219_252.out _).trans (((cell_far (p := ⟨gb252, _, none⟩) NB219_252.out _).trans (((cell_far (p := ⟨gb252, _, none⟩) NB219_252.out _).trans (((cell_far (p := ⟨gb252, _, none⟩) NB219_252.out _).trans (hHeld.1)))))))))), ((cell_far (p := ⟨gb252, _, none⟩) NB219_252.out _).trans (((cell_far (p := ⟨gb252, _, none⟩) NB219_252.out _).trans (((cell_far (p := ⟨gb252, _, none⟩) NB219_252.out _).trans (((cell_far (p := ⟨gb252, _, none⟩) NB219_252.out _).trans (((cell_far (p := ⟨gb252, _, none⟩) NB219_252.out _).trans (hHeld.2))))))))))⟩ (fun hHeld => ?_)
                      clear hK K
                      refine pure_ (i := 10) (N := some 13) (v := ?_) (a' := ?_) #[true, true, true, true, true, true, true, true, true, true, true] rfl rfl (any_of HT_.out (by kernel_rfl)) (fun _ _ _ h => h) (Or.inl ⟨by rfl, ?_⟩) ?_ ?_
                      rotate_left
                      ·
                       intro w'
                       go_simp
                       with_reducible rfl
                      rotate_left
                      ·
                       simp only [Act.put, List.setIfInBounds_toArray, List.set_cons_zero, List.set_cons_succ, i64_w, i32_w]
                       rfl
                      refine done_ (done_of HT_.out (by kernel_rfl)) ?_
                      try go_wp2
                      go_ret
                      exact ⟨by first | rfl | (simp [errW_none, errW_some] <;> rfl) | (simp [*, errW_none, errW_some] <;> rfl), by repeat (first | (with_reducible first | exact HB.out | apply below_alloc | apply pw_below_drewN | apply below_drew1 | refine blS ?_ GE219.out | refine blS ?_ GE227.out | refine blS ?_ GE244.out | refine blS ?_ GE252.out) | exact HB.out)⟩
                    ·
                     rw [if_neg c58] at H
                     exact absurd H (by simp)
                   ·
                    rw [if_neg c57] at H
                    exact absurd H (by simp)
                  ·
                   rw [if_neg c56] at H
                   have c56b0 : decide (x11_4 < t225) = false := decide_eq_false c56
                   clear c56
                   obtain rfl := Option.some.inj H
                   have hnb109 := NB227_219.out
                   have hnc109 := NB219_227.out
                   have hnb110 := NB227_244.out
                   have hnc110 := NB244_227.out
                   have hcz111_0 : wr.cell? ⟨gb227, 0, none⟩ = some (.int .i64 t221) := (blk_cell BK227.out 0).trans rfl
                   have hcz111_1 : wr.cell? ⟨gb227, 1, none⟩ = some (.int .i64 t222) := (blk_cell BK227.out 1).trans rfl
                   have hcz111_2 : wr.cell? ⟨gb227, 2, none⟩ = some (.int .i64 t223) := (blk_cell BK227.out 2).trans rfl
                   have hcz111_3 : wr.cell? ⟨gb227, 3, none⟩ = some (.int .u32 t224) := (blk_cell BK227.out 3).trans rfl
                   have hcz111_4 : wr.cell? ⟨gb227, 4, none⟩ = some (.int .i64 t225) := (blk_cell BK227.out 4).trans rfl
                   have hfz111_0 := blk_frozen BK227.out 0
                   have hfz111_1 := blk_frozen BK227.out 1
                   have hfz111_2 := blk_frozen BK227.out 2
                   have hfz111_3 := blk_frozen BK227.out 3
                   have hfz111_4 := blk_frozen BK227.out 4
                   go_wp2
                   go_ret
                   exact ⟨by first | rfl | (simp [errW_none, errW_some] <;> rfl) | (simp [*, errW_none, errW_some] <;> rfl), by repeat (first | (with_reducible first | exact HB.out | apply below_alloc | apply pw_below_drewN | apply below_drew1 | refine blS ?_ GE219.out | refine blS ?_ GE227.out | refine blS ?_ GE244.out) | exact HB.out)⟩
            ·
             rw [if_neg c31] at H
             exact absurd H (by simp)
           ·
            rw [if_neg c30] at H
            exact absurd H (by simp)
          ·
           rw [if_neg c29] at H
           exact absurd H (by simp)
         ·
          rw [if_neg c28] at H
          exact absurd H (by simp)
     ·
      rw [if_neg c12] at H
      have c12b0 : (t226 == 0) = false := beq_eq_false_iff_ne.mpr c12
      have c12b1 : (t226 != 0) = true := bne_iff_ne.mpr c12
      obtain rfl := Option.some.inj H
      have hcz112_0 : wc.cell? ⟨gb219, 0, none⟩ = some (.int .u8 a1_0) := (blk_cell BK219.out 0).trans rfl
      have hcz112_1 : wc.cell? ⟨gb219, 1, none⟩ = some (.int .i64 a1_1) := (blk_cell BK219.out 1).trans rfl
      have hfz112_0 := blk_frozen BK219.out 0
      have hfz112_1 := blk_frozen BK219.out 1
      go_wp2_with (first | ((with_reducible refine gate_callee (f := 32) rfl ?_); refine goesL_ (some 27) rfl rfl Try.func32 (by kernel_rfl) rfl #[.slice A0 l0.length c0, .agg #[.int .u8 a1_0, .int .i64 a1_1]] rfl (by (try simp only [List.map_toArray, List.map_cons, List.map_nil]); first | done | rfl | (simp only [List.length_drop, List.length_take]; rfl)) ?_; (with_reducible refine (spec_Decode.calls kj5 _ _ l0 a1_0 a1_1 t221 t222 t223 t224 t225 t226 _ ?side1 ?side2 A11.out).mono ?_); (case side1 => repeat (first | exact (Kd.C_below HR0.out HB.out) | (with_reducible refine Kd.C_alloc ?_ _) | (with_reducible refine Kd.C_drewN ?_ _) | (with_reducible refine Kd.C_drew ?_))); (case side2 => exact HC0.out); rintro e w113 ⟨rfl, hb⟩; refine ⟨_, rfl, ?_⟩; have n0_ := Aside0.mk (blk_below (g := gb219) (o := .cells #[.int .u8 a1_0, .int .i64 a1_1] 64 (0, 0)) (by (with_reducible repeat (first | refine bkN ?_ _ | refine bkD ?_ | refine bkA ?_ _)); exact BK219.out) hb); have n1_ := Aside0.mk (below_step (by repeat (first | (with_reducible first | exact HB.out | apply below_alloc | apply pw_below_drewN | apply below_drew1 | refine blS ?_ GE219.out) | exact HB.out)) hb); clear BK219; clear HB; have BK219 := n0_; have HB := n1_; clear n0_ n1_; (try clear hb); (try clear hb2); (try clear hk); (try clear hi)) | ((with_reducible refine gate_dst (N := 7) rfl ?_); (try (refine gate_guard (by rfl) ?_; dsimp only)); refine box_event ?hg (N := 7) ?hd (cs := #[.int .i64 0, .int .i64 0, .int .i64 0, .int .u32 0, .int .i64 0]) (t := 66) ?hr ?_; (case hd => rfl); (case hg => rfl); (case hr => first | (go_simp; done) | (go_simp; rfl)); intro gb227 hg w114 hbox hb; have n0_ := Aside0.mk (blk_below (g := gb219) (o := .cells #[.int .u8 a1_0, .int .i64 a1_1] 64 (0, 0)) (by (with_reducible repeat (first | refine bkN ?_ _ | refine bkD ?_ | refine bkA ?_ _)); exact BK219.out) hb); have n1_ := Aside0.mk (below_step (by repeat (first | (with_reducible first | exact HB.out | apply below_alloc | apply pw_below_drewN | apply below_drew1 | refine blS ?_ GE219.out) | exact HB.out)) hb); have n2_ := Aside0.mk (hbox); have n3_ := Aside0.mk ((by rw [hg]; exact (below_size (by repeat (first | (with_reducible first | exact HB.out | apply below_alloc | apply pw_below_drewN | apply below_drew1 | refine blS ?_ GE219.out) | exact HB.out))) : w.heap.size ≤ gb227)); have n4_ := Aside0.mk ((by rw [hg]; exact (below_size (by repeat (first | (with_reducible first | exact HB.out | apply below_alloc | apply pw_below_drewN | apply below_drew1 | refine blS ?_ GE219.out) | exact HB.out))) : w.heap.size ≤ gb227)); have n5_ := Aside0.mk ((by rw [hg]; exact Nat.ne_of_lt (blk_lt (g := gb219) (o := .cells #[.int .u8 a1_0, .int .i64 a1_1] 64 (0, 0)) (by (with_reducible repeat (first | refine bkN ?_ _ | refine bkD ?_ | refine bkA ?_ _)); exact BK219.out)) : gb219 ≠ gb227)); have n6_ := Aside0.mk ((by rw [hg]; exact Nat.ne_of_gt (blk_lt (g := gb219) (o := .cells #[.int .u8 a1_0, .int .i64 a1_1] 64 (0, 0)) (by (with_reducible repeat (first | refine bkN ?_ _ | refine bkD ?_ | refine bkA ?_ _)); exact BK219.out)) : gb227 ≠ gb219)); clear BK219; clear HB; have BK219 := n0_; have HB := n1_; have BK227 := n2_; have GW227 := n3_; have GE227 := n4_; have NB219_227 := n5_; have NB227_219 := n6_; clear n0_ n1_ n2_ n3_ n4_ n5_ n6_; clear hb hbox hg; have hnb115 := NB227_219.out; have hnc115 := NB219_227.out; have hcz116_0 : w114.cell? ⟨gb227, 0, none⟩ = some (.int .i64 0) := (blk_cell BK227.out 0).trans rfl; have hcz116_1 : w114.cell? ⟨gb227, 1, none⟩ = some (.int .i64 0) := (blk_cell BK227.out 1).trans rfl; have hcz116_2 : w114.cell? ⟨gb227, 2, none⟩ = some (.int .i64 0) := (blk_cell BK227.out 2).trans rfl; have hcz116_3 : w114.cell? ⟨gb227, 3, none⟩ = some (.int .u32 0) := (blk_cell BK227.out 3).trans rfl; have hcz116_4 : w114.cell? ⟨gb227, 4, none⟩ = some (.int .i64 0) := (blk_cell BK227.out 4).trans rfl; have hfz116_0 := blk_frozen BK227.out 0; have hfz116_1 := blk_frozen BK227.out 1; have hfz116_2 := blk_frozen BK227.out 2; have hfz116_3 := blk_frozen BK227.out 3; have hfz116_4 := blk_frozen BK227.out 4))
      go_ret
      exact ⟨by first | rfl | (simp [errW_none, errW_some] <;> rfl) | (simp [*, errW_none, errW_some] <;> rfl), by repeat (first | (with_reducible first | exact HB.out | apply below_alloc | apply pw_below_drewN | apply below_drew1 | refine blS ?_ GE219.out | refine blS ?_ GE227.out) | exact HB.out)⟩
 ·
  replace c5 := Bool.eq_false_iff.mpr c5
  subst c5
  have H1 : (some false) = some r := by rw [if_neg (show ¬ (false = true) by decide)] at H; exact H
  clear H
  have H := H1
  clear H1
  obtain rfl := Option.some.inj H
  go_enter Try.func10, Try.ntmps10
  go_wp2_with (first | ((with_reducible refine gate_dst (N := 4) rfl ?_); (try (refine gate_guard (by rfl) ?_; dsimp only)); refine box_event ?hg (N := 4) ?hd (cs := #[.int .u8 a1_0, .int .i64 a1_1]) (t := 64) ?hr ?_; (case hd => rfl); (case hg => rfl); (case hr => first | (go_simp; done) | (go_simp; rfl)); intro gb219 hg w117 hbox hb; have n0_ := Aside0.mk (below_step (by repeat (first | (with_reducible first | exact HB.out | apply below_alloc | apply pw_below_drewN | apply below_drew1) | exact HB.out)) hb); have n1_ := Aside0.mk (hbox); have n2_ := Aside0.mk ((by rw [hg]; exact (below_size (by repeat (first | (with_reducible first | exact HB.out | apply below_alloc | apply pw_below_drewN | apply below_drew1) | exact HB.out))) : w.heap.size ≤ gb219)); have n3_ := Aside0.mk ((by rw [hg]; exact (below_size (by repeat (first | (with_reducible first | exact HB.out | apply below_alloc | apply pw_below_drewN | apply below_drew1) | exact HB.out))) : w.heap.size ≤ gb219)); clear HB; have HB := n0_; have BK219 := n1_; have GW219 := n2_; have GE219 := n3_; clear n0_ n1_ n2_ n3_; clear hb hbox hg) | ((with_reducible refine gate_callee (f := 31) rfl ?_); refine goesL_ (some 14) rfl rfl Try.func31 (by kernel_rfl) rfl #[] rfl (by (try simp only [List.map_toArray, List.map_cons, List.map_nil]); first | done | rfl | (simp only [List.length_drop, List.length_take]; rfl)) ?_; (with_reducible refine (camshaftlaw11_alive.calls k  false _ A4.out).mono ?_); rintro e w118 ⟨rfl, hb⟩; refine ⟨_, rfl, ?_⟩; have n0_ := Aside0.mk (blk_below (g := gb219) (o := .cells #[.int .u8 a1_0, .int .i64 a1_1] 64 (0, 0)) (by (with_reducible repeat (first | refine bkN ?_ _ | refine bkD ?_ | refine bkA ?_ _)); exact BK219.out) hb); have n1_ := Aside0.mk (below_step (by repeat (first | (with_reducible first | exact HB.out | apply below_alloc | apply pw_below_drewN | apply below_drew1 | refine blS ?_ GE219.out) | exact HB.out)) hb); clear BK219; clear HB; have BK219 := n0_; have HB := n1_; clear n0_ n1_; (try clear hb); (try clear hb2); (try clear hk); (try clear hi)))
  go_ret
  exact ⟨by first | rfl | (simp [errW_none, errW_some] <;> rfl) | (simp [*, errW_none, errW_some] <;> rfl), by repeat (first | (with_reducible first | exact HB.out | apply below_alloc | apply pw_below_drewN | apply below_drew1 | refine blS ?_ GE219.out) | exact HB.out)⟩

end Go.Proofs.Ytbgcbnlpjjhmhaa.GSpecAlone
