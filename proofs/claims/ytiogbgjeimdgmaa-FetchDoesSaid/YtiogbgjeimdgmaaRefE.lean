/- The document's MMU: Entry; Find, walked case by case. -/
import Derived.Test.YtiogbgjeimdgmaaRefD
namespace Go.Proofs.Ytiogbgjeimdgmaa.RefWalk
open Go.RowKit Go.Proofs.Ytiogbgjeimdgmaa.Aid Go.Proofs.YtiogbgjeimdgmaaW.PrintWords Go.Proofs.YtiogbgjeimdgmaaW.PrintLast Go.Proofs.YtiogbgjeimdgmaaW.PrintMore
open Go.Proofs.Ytiogbgjeimdgmaa.MmuWalk (Chg R32 protE isE wrE placeE placeE_r mayE Flt fltV noF flt infoF leN_snoc szI Tabs noT noT_ok row_ty own_keep two_ty findF findP entryF entryP lookF memF offE atE atE_r lenT baseT pageE box1 row_then lenum_r flt3_put)
open Go.Proofs.Ytiogbgjeimdgmaa.RamWalk (Bytes leN leN_bounds putL putL_length putL_bytes grown_put grown_drewN grown_refl grown_drew info5)
open Go.Proofs.Ytiogbgjeimdgmaa.TlbWalk (RefAt putP dropP posP posP_page entP nil2 own_then rget_call mem_getD putP_mem)
attribute [local go_sem] max2_int min2_int max_two min_two max_three min_three max_four min_four   -- for this text's walks alone
set_option linter.unusedVariables false
set_option linter.unusedSimpArgs false
theorem rentry_ha (w : World) (base : Nat) (L : LocR) (vp ve : Value) (T : Tabs) (pl : Bool) (ps : List (Int × Int)) (l : List Int) (va pg : Int) (hv : R32 va) (hpg : va / 512 % 2097152 = pg) (h : RmAt w base L vp ve T pl ps l) (hs0 : va / 2147483648 = 1) (hb : decide (va / 1073741824 % 2 = 1) = true) :
    Calls Try.prog 49 #[.pointer (some ⟨L.m, 0, none⟩), .int .u32 va] w fun e w' => e = .returned (.tuple #[.int .u32 ((T.sb + 4 * pg) % 4294967296), .bool false]) ∧ w = w' := by
  have BT := Aside0.mk (bit30 w va hv)
  rw [hb] at BT
  have hv0 := hv.1
  have hv1 := hv.2
  have hs : (2147483648 : Int) ≤ va := by omega
  have c2 : w.cell? ⟨L.m, 2, none⟩ = some (.int .u32 T.p0b) := h.cell 2
  have c3 : w.cell? ⟨L.m, 3, none⟩ = some (.int .u32 T.p0l) := h.cell 3
  have c4 : w.cell? ⟨L.m, 4, none⟩ = some (.int .u32 T.sb) := h.cell 4
  have c5 : w.cell? ⟨L.m, 5, none⟩ = some (.int .u32 T.sl) := h.cell 5
  have e0 : Int.tdiv va 512 = va / 512 := Int.tdiv_eq_ediv_of_nonneg hv0
  have e1 : Int.tmod (va / 512) 2097152 = pg := by rw [Int.tmod_eq_emod_of_nonneg (by omega), hpg]
  have e3 : va / 512 % 4294967296 = va / 512 := by omega
  have e2 : pg * 4 % 4294967296 = 4 * pg := by omega
  have e4 : pg * 4 = 4 * pg := by omega
  clear h hv hb hs0 hpg
  go_enter Try.func49, Try.ntmps49
  go_wp2_with (first | (go_at_call 61; (with_reducible refine (BT.out).mono ?_); rintro e w1 ⟨rfl, rfl⟩))
  go_ret2
  first | exact ⟨rfl, rfl⟩ | (refine ⟨?_, rfl⟩; simp [e4] <;> omega)
theorem rentry_hb (w : World) (base : Nat) (L : LocR) (vp ve : Value) (T : Tabs) (pl : Bool) (ps : List (Int × Int)) (l : List Int) (va pg : Int) (hv : R32 va) (hpg : va / 512 % 2097152 = pg) (h : RmAt w base L vp ve T pl ps l) (hs0 : va / 2147483648 = 1) (hb : decide (va / 1073741824 % 2 = 1) = false) (hn : ¬ pg < T.sl) :
    Calls Try.prog 49 #[.pointer (some ⟨L.m, 0, none⟩), .int .u32 va] w fun e w' => e = .returned (.tuple #[.int .u32 ((T.sb + 4 * pg) % 4294967296), .bool false]) ∧ w = w' := by
  have BT := Aside0.mk (bit30 w va hv)
  rw [hb] at BT
  have hv0 := hv.1
  have hv1 := hv.2
  have hs : (2147483648 : Int) ≤ va := by omega
  have c2 : w.cell? ⟨L.m, 2, none⟩ = some (.int .u32 T.p0b) := h.cell 2
  have c3 : w.cell? ⟨L.m, 3, none⟩ = some (.int .u32 T.p0l) := h.cell 3
  have c4 : w.cell? ⟨L.m, 4, none⟩ = some (.int .u32 T.sb) := h.cell 4
  have c5 : w.cell? ⟨L.m, 5, none⟩ = some (.int .u32 T.sl) := h.cell 5
  have e0 : Int.tdiv va 512 = va / 512 := Int.tdiv_eq_ediv_of_nonneg hv0
  have e1 : Int.tmod (va / 512) 2097152 = pg := by rw [Int.tmod_eq_emod_of_nonneg (by omega), hpg]
  have e3 : va / 512 % 4294967296 = va / 512 := by omega
  have e2 : pg * 4 % 4294967296 = 4 * pg := by omega
  have e4 : pg * 4 = 4 * pg := by omega
  clear h hv hb hs0 hpg
  go_enter Try.func49, Try.ntmps49
  go_wp2_with (first | (go_at_call 61; (with_reducible refine (BT.out).mono ?_); rintro e w1 ⟨rfl, rfl⟩))
  go_ret2
  first | exact ⟨rfl, rfl⟩ | (refine ⟨?_, rfl⟩; simp [e4] <;> omega)
theorem rentry_hc (w : World) (base : Nat) (L : LocR) (vp ve : Value) (T : Tabs) (pl : Bool) (ps : List (Int × Int)) (l : List Int) (va pg : Int) (hv : R32 va) (hpg : va / 512 % 2097152 = pg) (h : RmAt w base L vp ve T pl ps l) (hs0 : va / 2147483648 = 1) (hb : decide (va / 1073741824 % 2 = 1) = false) (hn : pg < T.sl) :
    Calls Try.prog 49 #[.pointer (some ⟨L.m, 0, none⟩), .int .u32 va] w fun e w' => e = .returned (.tuple #[.int .u32 ((T.sb + 4 * pg) % 4294967296), .bool true]) ∧ w = w' := by
  have BT := Aside0.mk (bit30 w va hv)
  rw [hb] at BT
  have hv0 := hv.1
  have hv1 := hv.2
  have hs : (2147483648 : Int) ≤ va := by omega
  have c2 : w.cell? ⟨L.m, 2, none⟩ = some (.int .u32 T.p0b) := h.cell 2
  have c3 : w.cell? ⟨L.m, 3, none⟩ = some (.int .u32 T.p0l) := h.cell 3
  have c4 : w.cell? ⟨L.m, 4, none⟩ = some (.int .u32 T.sb) := h.cell 4
  have c5 : w.cell? ⟨L.m, 5, none⟩ = some (.int .u32 T.sl) := h.cell 5
  have e0 : Int.tdiv va 512 = va / 512 := Int.tdiv_eq_ediv_of_nonneg hv0
  have e1 : Int.tmod (va / 512) 2097152 = pg := by rw [Int.tmod_eq_emod_of_nonneg (by omega), hpg]
  have e3 : va / 512 % 4294967296 = va / 512 := by omega
  have e2 : pg * 4 % 4294967296 = 4 * pg := by omega
  have e4 : pg * 4 = 4 * pg := by omega
  clear h hv hb hs0 hpg
  go_enter Try.func49, Try.ntmps49
  go_wp2_with (first | (go_at_call 61; (with_reducible refine (BT.out).mono ?_); rintro e w1 ⟨rfl, rfl⟩))
  go_ret2
  first | exact ⟨rfl, rfl⟩ | (refine ⟨?_, rfl⟩; simp [e4] <;> omega)
theorem rentry_la (w : World) (base : Nat) (L : LocR) (vp ve : Value) (T : Tabs) (pl : Bool) (ps : List (Int × Int)) (l : List Int) (va pg : Int) (hv : R32 va) (hpg : va / 512 % 2097152 = pg) (h : RmAt w base L vp ve T pl ps l) (hs0 : va / 2147483648 ≠ 1) (hb : decide (va / 1073741824 % 2 = 1) = true) :
    Calls Try.prog 49 #[.pointer (some ⟨L.m, 0, none⟩), .int .u32 va] w fun e w' => e = .returned (.tuple #[.int .u32 ((T.p0b + 4 * pg) % 4294967296), .bool false]) ∧ w = w' := by
  have BT := Aside0.mk (bit30 w va hv)
  rw [hb] at BT
  have hv0 := hv.1
  have hv1 := hv.2
  have hs : ¬ (2147483648 : Int) ≤ va := by omega
  have c2 : w.cell? ⟨L.m, 2, none⟩ = some (.int .u32 T.p0b) := h.cell 2
  have c3 : w.cell? ⟨L.m, 3, none⟩ = some (.int .u32 T.p0l) := h.cell 3
  have c4 : w.cell? ⟨L.m, 4, none⟩ = some (.int .u32 T.sb) := h.cell 4
  have c5 : w.cell? ⟨L.m, 5, none⟩ = some (.int .u32 T.sl) := h.cell 5
  have e0 : Int.tdiv va 512 = va / 512 := Int.tdiv_eq_ediv_of_nonneg hv0
  have e1 : Int.tmod (va / 512) 2097152 = pg := by rw [Int.tmod_eq_emod_of_nonneg (by omega), hpg]
  have e3 : va / 512 % 4294967296 = va / 512 := by omega
  have e2 : pg * 4 % 4294967296 = 4 * pg := by omega
  have e4 : pg * 4 = 4 * pg := by omega
  clear h hv hb hs0 hpg
  go_enter Try.func49, Try.ntmps49
  go_wp2_with (first | (go_at_call 61; (with_reducible refine (BT.out).mono ?_); rintro e w1 ⟨rfl, rfl⟩))
  go_ret2
  first | exact ⟨rfl, rfl⟩ | (refine ⟨?_, rfl⟩; simp [e4] <;> omega)
theorem rentry_lb (w : World) (base : Nat) (L : LocR) (vp ve : Value) (T : Tabs) (pl : Bool) (ps : List (Int × Int)) (l : List Int) (va pg : Int) (hv : R32 va) (hpg : va / 512 % 2097152 = pg) (h : RmAt w base L vp ve T pl ps l) (hs0 : va / 2147483648 ≠ 1) (hb : decide (va / 1073741824 % 2 = 1) = false) (hn : ¬ pg < T.p0l) :
    Calls Try.prog 49 #[.pointer (some ⟨L.m, 0, none⟩), .int .u32 va] w fun e w' => e = .returned (.tuple #[.int .u32 ((T.p0b + 4 * pg) % 4294967296), .bool false]) ∧ w = w' := by
  have BT := Aside0.mk (bit30 w va hv)
  rw [hb] at BT
  have hv0 := hv.1
  have hv1 := hv.2
  have hs : ¬ (2147483648 : Int) ≤ va := by omega
  have c2 : w.cell? ⟨L.m, 2, none⟩ = some (.int .u32 T.p0b) := h.cell 2
  have c3 : w.cell? ⟨L.m, 3, none⟩ = some (.int .u32 T.p0l) := h.cell 3
  have c4 : w.cell? ⟨L.m, 4, none⟩ = some (.int .u32 T.sb) := h.cell 4
  have c5 : w.cell? ⟨L.m, 5, none⟩ = some (.int .u32 T.sl) := h.cell 5
  have e0 : Int.tdiv va 512 = va / 512 := Int.tdiv_eq_ediv_of_nonneg hv0
  have e1 : Int.tmod (va / 512) 2097152 = pg := by rw [Int.tmod_eq_emod_of_nonneg (by omega), hpg]
  have e3 : va / 512 % 4294967296 = va / 512 := by omega
  have e2 : pg * 4 % 4294967296 = 4 * pg := by omega
  have e4 : pg * 4 = 4 * pg := by omega
  clear h hv hb hs0 hpg
  go_enter Try.func49, Try.ntmps49
  go_wp2_with (first | (go_at_call 61; (with_reducible refine (BT.out).mono ?_); rintro e w1 ⟨rfl, rfl⟩))
  go_ret2
  first | exact ⟨rfl, rfl⟩ | (refine ⟨?_, rfl⟩; simp [e4] <;> omega)
theorem rentry_lc (w : World) (base : Nat) (L : LocR) (vp ve : Value) (T : Tabs) (pl : Bool) (ps : List (Int × Int)) (l : List Int) (va pg : Int) (hv : R32 va) (hpg : va / 512 % 2097152 = pg) (h : RmAt w base L vp ve T pl ps l) (hs0 : va / 2147483648 ≠ 1) (hb : decide (va / 1073741824 % 2 = 1) = false) (hn : pg < T.p0l) :
    Calls Try.prog 49 #[.pointer (some ⟨L.m, 0, none⟩), .int .u32 va] w fun e w' => e = .returned (.tuple #[.int .u32 ((T.p0b + 4 * pg) % 4294967296), .bool true]) ∧ w = w' := by
  have BT := Aside0.mk (bit30 w va hv)
  rw [hb] at BT
  have hv0 := hv.1
  have hv1 := hv.2
  have hs : ¬ (2147483648 : Int) ≤ va := by omega
  have c2 : w.cell? ⟨L.m, 2, none⟩ = some (.int .u32 T.p0b) := h.cell 2
  have c3 : w.cell? ⟨L.m, 3, none⟩ = some (.int .u32 T.p0l) := h.cell 3
  have c4 : w.cell? ⟨L.m, 4, none⟩ = some (.int .u32 T.sb) := h.cell 4
  have c5 : w.cell? ⟨L.m, 5, none⟩ = some (.int .u32 T.sl) := h.cell 5
  have e0 : Int.tdiv va 512 = va / 512 := Int.tdiv_eq_ediv_of_nonneg hv0
  have e1 : Int.tmod (va / 512) 2097152 = pg := by rw [Int.tmod_eq_emod_of_nonneg (by omega), hpg]
  have e3 : va / 512 % 4294967296 = va / 512 := by omega
  have e2 : pg * 4 % 4294967296 = 4 * pg := by omega
  have e4 : pg * 4 = 4 * pg := by omega
  clear h hv hb hs0 hpg
  go_enter Try.func49, Try.ntmps49
  go_wp2_with (first | (go_at_call 61; (with_reducible refine (BT.out).mono ?_); rintro e w1 ⟨rfl, rfl⟩))
  go_ret2
  first | exact ⟨rfl, rfl⟩ | (refine ⟨?_, rfl⟩; simp [e4] <;> omega)
theorem rentry_call (w : World) (base : Nat) (L : LocR) (vp ve : Value) (T : Tabs) (pl : Bool) (ps : List (Int × Int)) (l : List Int) (va : Int) (hv : R32 va) (h : RmAt w base L vp ve T pl ps l) :
    Calls Try.prog 49 #[.pointer (some ⟨L.m, 0, none⟩), .int .u32 va] w fun e w' => e = .returned (.tuple #[.int .u32 (atE T va), .bool (!offE T va)]) ∧ w = w' := by
  unfold offE lenT atE baseT
  have hp : va / 512 % 2097152 = pageE va := rfl
  by_cases hs : va / 2147483648 = 1
  · rw [if_pos hs, if_pos hs]
    cases hb : decide (va / 1073741824 % 2 = 1)
    · by_cases hn : pageE va < T.sl
      · rw [decide_eq_false (show ¬ T.sl ≤ pageE va by omega)]
        exact rentry_hc w base L vp ve T pl ps l va _ hv hp h hs hb hn
      · rw [decide_eq_true (show T.sl ≤ pageE va by omega)]
        exact rentry_hb w base L vp ve T pl ps l va _ hv hp h hs hb hn
    · exact rentry_ha w base L vp ve T pl ps l va _ hv hp h hs hb
  · rw [if_neg hs, if_neg hs]
    cases hb : decide (va / 1073741824 % 2 = 1)
    · by_cases hn : pageE va < T.p0l
      · rw [decide_eq_false (show ¬ T.p0l ≤ pageE va by omega)]
        exact rentry_lc w base L vp ve T pl ps l va _ hv hp h hs hb hn
      · rw [decide_eq_true (show T.p0l ≤ pageE va by omega)]
        exact rentry_lb w base L vp ve T pl ps l va _ hv hp h hs hb hn
    · exact rentry_la w base L vp ve T pl ps l va _ hv hp h hs hb
set_option maxRecDepth 100000 in
set_option maxHeartbeats 2000000 in
theorem rf_m0_ok (w : World) (base : Nat) (L : LocR) (vp ve : Value) (T : Tabs) (pl : Bool) (ps : List (Int × Int)) (l : List Int) (va x : Int) (n : Nat) (u wr keep : Bool) (hv : R32 va) (h : RmAt w base L vp ve T pl ps l) (hm : T.men = 0) (TH : Aside0 (∀ W vp' ve' ps', RmAt W base L vp' ve' T pl ps' l → Calls Try.prog 55 #[.pointer (some ⟨L.r, 0, none⟩), .int .u32 va, .int .i64 n] W fun e w' => e = .returned (.bool true) ∧ W = w')) :
    Calls Try.prog 24 #[.pointer (some ⟨L.m, 0, none⟩), .int .u32 va, .int .i64 n, .bool u, .bool wr, .bool keep] w fun e w' => e = .returned (.tuple #[.int .u32 va, .agg #[.int .i64 0, .int .u32 0, .int .u32 0]]) ∧ Below w.heap.size w w' := by
  have M := Aside0.mk h
  have BX := box1 w (.cells #[.int .i64 0, .int .u32 0, .int .u32 0] 47 (0, 0))
  obtain ⟨W, hW⟩ : ∃ W, w.alloc (.cells #[.int .i64 0, .int .u32 0, .int .u32 0] 47 (0, 0)) = W := ⟨_, rfl⟩
  rw [hW] at BX
  have MW := Aside0.mk (M.out.then BX.1)
  have Z := Aside0.mk BX.2
  have BB := Aside0.mk BX.1
  have c0 : W.cell? ⟨L.m, 0, none⟩ = some (.pointer (some ⟨L.r, 0, none⟩)) := MW.out.cell 0
  have c1 : W.cell? ⟨L.m, 1, none⟩ = some (.pointer (some ⟨L.t, 0, none⟩)) := MW.out.cell 1
  have c6 : W.cell? ⟨L.m, 6, none⟩ = some (.int .u32 T.men) := MW.out.cell 6
  have c7 : W.cell? ⟨L.m, 7, none⟩ = some (.bool pl) := MW.out.cell 7
  have hv0 := hv.1
  have hv1 := hv.2
  have e0 : Int.tdiv va 512 = va / 512 := Int.tdiv_eq_ediv_of_nonneg hv0
  have e3 : va / 512 % 4294967296 = va / 512 := by omega
  clear h BX hv
  go_enter Try.func24, Try.ntmps24
  go_wp2_with (first
    | (go_at_call 55; (with_reducible refine (TH.out _ _ _ _ MW.out).mono ?_); rintro e w3 ⟨rfl, rfl⟩)
    | (refine wpList_store_row rfl 47 (.tmp 13) (.tmp 115) rfl w.heap.size #[.int .i64 0, .int .u32 0, .int .u32 0] rfl rfl _ _ Z.out infoF rfl (by kernel_rfl) ?_))
  refine bodyPost_ret (results_tc rfl _ _ w.heap.size 47 #[.int .i64 0, .int .u32 0, .int .u32 0] (0, 0) _ rfl (setRow_heap _ _ _ _ 47 _ Z.out) Try.underlying47 rfl infoF) rfl ⟨rfl, below_setRow BB.out (Nat.le_refl _) _⟩
set_option maxRecDepth 100000 in
set_option maxHeartbeats 2000000 in
theorem rf_m0_bus (w : World) (base : Nat) (L : LocR) (vp ve : Value) (T : Tabs) (pl : Bool) (ps : List (Int × Int)) (l : List Int) (va x : Int) (n : Nat) (u wr keep : Bool) (hv : R32 va) (h : RmAt w base L vp ve T pl ps l) (hm : T.men = 0) (TH : Aside0 (∀ W vp' ve' ps', RmAt W base L vp' ve' T pl ps' l → Calls Try.prog 55 #[.pointer (some ⟨L.r, 0, none⟩), .int .u32 va, .int .i64 n] W fun e w' => e = .returned (.bool false) ∧ W = w')) (j : Int) (F : Aside0 (∀ W, Calls Try.prog 59 #[.int .i64 1, .int .u32 va, .int .u32 0, .bool wr] W fun e w' => e = .returned (.agg #[.int .i64 1, .int .u32 va, .int .u32 j]) ∧ Below W.heap.size W w')) :
    Calls Try.prog 24 #[.pointer (some ⟨L.m, 0, none⟩), .int .u32 va, .int .i64 n, .bool u, .bool wr, .bool keep] w fun e w' => e = .returned (.tuple #[.int .u32 0, .agg #[.int .i64 1, .int .u32 va, .int .u32 j]]) ∧ Below w.heap.size w w' := by
  have M := Aside0.mk h
  have BX := box1 w (.cells #[.int .i64 0, .int .u32 0, .int .u32 0] 47 (0, 0))
  obtain ⟨W, hW⟩ : ∃ W, w.alloc (.cells #[.int .i64 0, .int .u32 0, .int .u32 0] 47 (0, 0)) = W := ⟨_, rfl⟩
  rw [hW] at BX
  have MW := Aside0.mk (M.out.then BX.1)
  have Z := Aside0.mk BX.2
  have BB := Aside0.mk BX.1
  have c0 : W.cell? ⟨L.m, 0, none⟩ = some (.pointer (some ⟨L.r, 0, none⟩)) := MW.out.cell 0
  have c1 : W.cell? ⟨L.m, 1, none⟩ = some (.pointer (some ⟨L.t, 0, none⟩)) := MW.out.cell 1
  have c6 : W.cell? ⟨L.m, 6, none⟩ = some (.int .u32 T.men) := MW.out.cell 6
  have c7 : W.cell? ⟨L.m, 7, none⟩ = some (.bool pl) := MW.out.cell 7
  have hv0 := hv.1
  have hv1 := hv.2
  have e0 : Int.tdiv va 512 = va / 512 := Int.tdiv_eq_ediv_of_nonneg hv0
  have e3 : va / 512 % 4294967296 = va / 512 := by omega
  clear h BX hv
  go_enter Try.func24, Try.ntmps24
  go_wp2_with (first
    | (go_at_call 55; (with_reducible refine (TH.out _ _ _ _ MW.out).mono ?_); rintro e w3 ⟨rfl, rfl⟩)
    | (go_at_call 59; (with_reducible refine (F.out _).mono ?_); rintro e w6 ⟨rfl, hb⟩; have Z6 := Aside0.mk (row_then Z.out hb); have B6 := Aside0.mk hb; clear hb)
    | (refine wpList_store_row rfl 47 (.tmp 13) (.tmp 113) rfl w.heap.size #[.int .i64 1, .int .u32 va, .int .u32 j] rfl rfl _ _ Z6.out infoF rfl (by kernel_rfl) ?_))
  refine bodyPost_ret (results_tc rfl _ _ w.heap.size 47 #[.int .i64 1, .int .u32 va, .int .u32 j] (0, 0) _ rfl (setRow_heap _ _ _ _ 47 _ Z6.out) Try.underlying47 rfl infoF) rfl ⟨rfl, below_setRow (below_step BB.out B6.out) (Nat.le_refl _) _⟩
set_option maxRecDepth 100000 in
set_option maxHeartbeats 2000000 in
theorem rf_y_may (w : World) (base : Nat) (L : LocR) (vp ve : Value) (T : Tabs) (pl : Bool) (ps : List (Int × Int)) (l : List Int) (va x : Int) (n : Nat) (u wr keep : Bool) (hv : R32 va) (h : RmAt w base L vp ve T pl ps l) (hm : (T.men == 0) = false) (TG : Aside0 (∀ W, RmAt W base L vp ve T pl ps l → Calls Try.prog 58 #[.pointer (some ⟨L.t, 0, none⟩), .int .u32 (va / 512)] W fun e w' => e = .returned (.tuple #[.int .u32 x, .bool true]) ∧ W = w')) (MY : Aside0 (∀ W, Calls Try.prog 60 #[.int .u32 x, .bool u, .bool wr] W fun e w' => e = .returned (.bool false) ∧ W = w')) (j : Int) (F : Aside0 (∀ W, Calls Try.prog 59 #[.int .i64 2, .int .u32 va, .int .u32 0, .bool wr] W fun e w' => e = .returned (.agg #[.int .i64 2, .int .u32 va, .int .u32 j]) ∧ Below W.heap.size W w')) :
    Calls Try.prog 24 #[.pointer (some ⟨L.m, 0, none⟩), .int .u32 va, .int .i64 n, .bool u, .bool wr, .bool keep] w fun e w' => e = .returned (.tuple #[.int .u32 0, .agg #[.int .i64 2, .int .u32 va, .int .u32 j]]) ∧ Below w.heap.size w w' := by
  have M := Aside0.mk h
  have BX := box1 w (.cells #[.int .i64 0, .int .u32 0, .int .u32 0] 47 (0, 0))
  obtain ⟨W, hW⟩ : ∃ W, w.alloc (.cells #[.int .i64 0, .int .u32 0, .int .u32 0] 47 (0, 0)) = W := ⟨_, rfl⟩
  rw [hW] at BX
  have MW := Aside0.mk (M.out.then BX.1)
  have Z := Aside0.mk BX.2
  have BB := Aside0.mk BX.1
  have c0 : W.cell? ⟨L.m, 0, none⟩ = some (.pointer (some ⟨L.r, 0, none⟩)) := MW.out.cell 0
  have c1 : W.cell? ⟨L.m, 1, none⟩ = some (.pointer (some ⟨L.t, 0, none⟩)) := MW.out.cell 1
  have c6 : W.cell? ⟨L.m, 6, none⟩ = some (.int .u32 T.men) := MW.out.cell 6
  have c7 : W.cell? ⟨L.m, 7, none⟩ = some (.bool pl) := MW.out.cell 7
  have hv0 := hv.1
  have hv1 := hv.2
  have e0 : Int.tdiv va 512 = va / 512 := Int.tdiv_eq_ediv_of_nonneg hv0
  have e3 : va / 512 % 4294967296 = va / 512 := by omega
  clear h BX hv
  go_enter Try.func24, Try.ntmps24
  go_wp2_with (first
    | (go_at_call 58; (with_reducible refine (TG.out _ MW.out).mono ?_); rintro e w3 ⟨rfl, rfl⟩)
    | (go_at_call 60; (with_reducible refine (MY.out _).mono ?_); rintro e w3 ⟨rfl, rfl⟩)
    | (go_at_call 59; (with_reducible refine (F.out _).mono ?_); rintro e w6 ⟨rfl, hb⟩; have Z6 := Aside0.mk (row_then Z.out hb); have B6 := Aside0.mk hb; clear hb)
    | (refine wpList_store_row rfl 47 (.tmp 13) (.tmp 73) rfl w.heap.size #[.int .i64 2, .int .u32 va, .int .u32 j] rfl rfl _ _ Z6.out infoF rfl (by kernel_rfl) ?_))
  refine bodyPost_ret (results_tc rfl _ _ w.heap.size 47 #[.int .i64 2, .int .u32 va, .int .u32 j] (0, 0) _ rfl (setRow_heap _ _ _ _ 47 _ Z6.out) Try.underlying47 rfl infoF) rfl ⟨rfl, below_setRow (below_step BB.out B6.out) (Nat.le_refl _) _⟩
set_option maxRecDepth 100000 in
set_option maxHeartbeats 2000000 in
theorem rf_y_is (w : World) (base : Nat) (L : LocR) (vp ve : Value) (T : Tabs) (pl : Bool) (ps : List (Int × Int)) (l : List Int) (va x : Int) (n : Nat) (u wr keep : Bool) (hv : R32 va) (h : RmAt w base L vp ve T pl ps l) (hm : (T.men == 0) = false) (TG : Aside0 (∀ W, RmAt W base L vp ve T pl ps l → Calls Try.prog 58 #[.pointer (some ⟨L.t, 0, none⟩), .int .u32 (va / 512)] W fun e w' => e = .returned (.tuple #[.int .u32 x, .bool true]) ∧ W = w')) (MY : Aside0 (∀ W, Calls Try.prog 60 #[.int .u32 x, .bool u, .bool wr] W fun e w' => e = .returned (.bool true) ∧ W = w')) (BI : Aside0 (∀ W, Calls Try.prog 61 #[.int .u32 x, .int .i64 31] W fun e w' => e = .returned (.bool false) ∧ W = w')) (j : Int) (F : Aside0 (∀ W, Calls Try.prog 59 #[.int .i64 3, .int .u32 va, .int .u32 0, .bool wr] W fun e w' => e = .returned (.agg #[.int .i64 3, .int .u32 va, .int .u32 j]) ∧ Below W.heap.size W w')) :
    Calls Try.prog 24 #[.pointer (some ⟨L.m, 0, none⟩), .int .u32 va, .int .i64 n, .bool u, .bool wr, .bool keep] w fun e w' => e = .returned (.tuple #[.int .u32 0, .agg #[.int .i64 3, .int .u32 va, .int .u32 j]]) ∧ Below w.heap.size w w' := by
  have M := Aside0.mk h
  have BX := box1 w (.cells #[.int .i64 0, .int .u32 0, .int .u32 0] 47 (0, 0))
  obtain ⟨W, hW⟩ : ∃ W, w.alloc (.cells #[.int .i64 0, .int .u32 0, .int .u32 0] 47 (0, 0)) = W := ⟨_, rfl⟩
  rw [hW] at BX
  have MW := Aside0.mk (M.out.then BX.1)
  have Z := Aside0.mk BX.2
  have BB := Aside0.mk BX.1
  have c0 : W.cell? ⟨L.m, 0, none⟩ = some (.pointer (some ⟨L.r, 0, none⟩)) := MW.out.cell 0
  have c1 : W.cell? ⟨L.m, 1, none⟩ = some (.pointer (some ⟨L.t, 0, none⟩)) := MW.out.cell 1
  have c6 : W.cell? ⟨L.m, 6, none⟩ = some (.int .u32 T.men) := MW.out.cell 6
  have c7 : W.cell? ⟨L.m, 7, none⟩ = some (.bool pl) := MW.out.cell 7
  have hv0 := hv.1
  have hv1 := hv.2
  have e0 : Int.tdiv va 512 = va / 512 := Int.tdiv_eq_ediv_of_nonneg hv0
  have e3 : va / 512 % 4294967296 = va / 512 := by omega
  clear h BX hv
  go_enter Try.func24, Try.ntmps24
  go_wp2_with (first
    | (go_at_call 58; (with_reducible refine (TG.out _ MW.out).mono ?_); rintro e w3 ⟨rfl, rfl⟩)
    | (go_at_call 60; (with_reducible refine (MY.out _).mono ?_); rintro e w3 ⟨rfl, rfl⟩)
    | (go_at_call 61; (with_reducible refine (BI.out _).mono ?_); rintro e w3 ⟨rfl, rfl⟩)
    | (go_at_call 59; (with_reducible refine (F.out _).mono ?_); rintro e w6 ⟨rfl, hb⟩; have Z6 := Aside0.mk (row_then Z.out hb); have B6 := Aside0.mk hb; clear hb)
    | (refine wpList_store_row rfl 47 (.tmp 13) (.tmp 79) rfl w.heap.size #[.int .i64 3, .int .u32 va, .int .u32 j] rfl rfl _ _ Z6.out infoF rfl (by kernel_rfl) ?_))
  refine bodyPost_ret (results_tc rfl _ _ w.heap.size 47 #[.int .i64 3, .int .u32 va, .int .u32 j] (0, 0) _ rfl (setRow_heap _ _ _ _ 47 _ Z6.out) Try.underlying47 rfl infoF) rfl ⟨rfl, below_setRow (below_step BB.out B6.out) (Nat.le_refl _) _⟩
set_option maxRecDepth 100000 in
set_option maxHeartbeats 2000000 in
theorem rf_y_ok (w : World) (base : Nat) (L : LocR) (vp ve : Value) (T : Tabs) (pl : Bool) (ps : List (Int × Int)) (l : List Int) (va x : Int) (n : Nat) (u wr keep : Bool) (hv : R32 va) (h : RmAt w base L vp ve T pl ps l) (hm : (T.men == 0) = false) (TG : Aside0 (∀ W, RmAt W base L vp ve T pl ps l → Calls Try.prog 58 #[.pointer (some ⟨L.t, 0, none⟩), .int .u32 (va / 512)] W fun e w' => e = .returned (.tuple #[.int .u32 x, .bool true]) ∧ W = w')) (MY : Aside0 (∀ W, Calls Try.prog 60 #[.int .u32 x, .bool u, .bool wr] W fun e w' => e = .returned (.bool true) ∧ W = w')) (BI : Aside0 (∀ W, Calls Try.prog 61 #[.int .u32 x, .int .i64 31] W fun e w' => e = .returned (.bool true) ∧ W = w')) (pa : Int) (PP : Aside0 (∀ W, Calls Try.prog 63 #[.int .u32 x, .int .u32 va] W fun e w' => e = .returned (.int .u32 pa) ∧ W = w')) (TH : Aside0 (∀ W vp' ve' ps', RmAt W base L vp' ve' T pl ps' l → Calls Try.prog 55 #[.pointer (some ⟨L.r, 0, none⟩), .int .u32 pa, .int .i64 n] W fun e w' => e = .returned (.bool true) ∧ W = w')) :
    Calls Try.prog 24 #[.pointer (some ⟨L.m, 0, none⟩), .int .u32 va, .int .i64 n, .bool u, .bool wr, .bool keep] w fun e w' => e = .returned (.tuple #[.int .u32 pa, .agg #[.int .i64 0, .int .u32 0, .int .u32 0]]) ∧ Below w.heap.size w w' := by
  have M := Aside0.mk h
  have BX := box1 w (.cells #[.int .i64 0, .int .u32 0, .int .u32 0] 47 (0, 0))
  obtain ⟨W, hW⟩ : ∃ W, w.alloc (.cells #[.int .i64 0, .int .u32 0, .int .u32 0] 47 (0, 0)) = W := ⟨_, rfl⟩
  rw [hW] at BX
  have MW := Aside0.mk (M.out.then BX.1)
  have Z := Aside0.mk BX.2
  have BB := Aside0.mk BX.1
  have c0 : W.cell? ⟨L.m, 0, none⟩ = some (.pointer (some ⟨L.r, 0, none⟩)) := MW.out.cell 0
  have c1 : W.cell? ⟨L.m, 1, none⟩ = some (.pointer (some ⟨L.t, 0, none⟩)) := MW.out.cell 1
  have c6 : W.cell? ⟨L.m, 6, none⟩ = some (.int .u32 T.men) := MW.out.cell 6
  have c7 : W.cell? ⟨L.m, 7, none⟩ = some (.bool pl) := MW.out.cell 7
  have hv0 := hv.1
  have hv1 := hv.2
  have e0 : Int.tdiv va 512 = va / 512 := Int.tdiv_eq_ediv_of_nonneg hv0
  have e3 : va / 512 % 4294967296 = va / 512 := by omega
  clear h BX hv
  go_enter Try.func24, Try.ntmps24
  go_wp2_with (first
    | (go_at_call 58; (with_reducible refine (TG.out _ MW.out).mono ?_); rintro e w3 ⟨rfl, rfl⟩)
    | (go_at_call 60; (with_reducible refine (MY.out _).mono ?_); rintro e w3 ⟨rfl, rfl⟩)
    | (go_at_call 61; (with_reducible refine (BI.out _).mono ?_); rintro e w3 ⟨rfl, rfl⟩)
    | (go_at_call 63; (with_reducible refine (PP.out _).mono ?_); rintro e w3 ⟨rfl, rfl⟩)
    | (go_at_call 55; (with_reducible refine (TH.out _ _ _ _ MW.out).mono ?_); rintro e w3 ⟨rfl, rfl⟩)
    | (refine wpList_store_row rfl 47 (.tmp 13) (.tmp 115) rfl w.heap.size #[.int .i64 0, .int .u32 0, .int .u32 0] rfl rfl _ _ Z.out infoF rfl (by kernel_rfl) ?_))
  refine bodyPost_ret (results_tc rfl _ _ w.heap.size 47 #[.int .i64 0, .int .u32 0, .int .u32 0] (0, 0) _ rfl (setRow_heap _ _ _ _ 47 _ Z.out) Try.underlying47 rfl infoF) rfl ⟨rfl, below_setRow BB.out (Nat.le_refl _) _⟩
set_option maxRecDepth 100000 in
set_option maxHeartbeats 2000000 in
theorem rf_y_bus (w : World) (base : Nat) (L : LocR) (vp ve : Value) (T : Tabs) (pl : Bool) (ps : List (Int × Int)) (l : List Int) (va x : Int) (n : Nat) (u wr keep : Bool) (hv : R32 va) (h : RmAt w base L vp ve T pl ps l) (hm : (T.men == 0) = false) (TG : Aside0 (∀ W, RmAt W base L vp ve T pl ps l → Calls Try.prog 58 #[.pointer (some ⟨L.t, 0, none⟩), .int .u32 (va / 512)] W fun e w' => e = .returned (.tuple #[.int .u32 x, .bool true]) ∧ W = w')) (MY : Aside0 (∀ W, Calls Try.prog 60 #[.int .u32 x, .bool u, .bool wr] W fun e w' => e = .returned (.bool true) ∧ W = w')) (BI : Aside0 (∀ W, Calls Try.prog 61 #[.int .u32 x, .int .i64 31] W fun e w' => e = .returned (.bool true) ∧ W = w')) (pa : Int) (PP : Aside0 (∀ W, Calls Try.prog 63 #[.int .u32 x, .int .u32 va] W fun e w' => e = .returned (.int .u32 pa) ∧ W = w')) (TH : Aside0 (∀ W vp' ve' ps', RmAt W base L vp' ve' T pl ps' l → Calls Try.prog 55 #[.pointer (some ⟨L.r, 0, none⟩), .int .u32 pa, .int .i64 n] W fun e w' => e = .returned (.bool false) ∧ W = w')) (j : Int) (F : Aside0 (∀ W, Calls Try.prog 59 #[.int .i64 1, .int .u32 va, .int .u32 0, .bool wr] W fun e w' => e = .returned (.agg #[.int .i64 1, .int .u32 va, .int .u32 j]) ∧ Below W.heap.size W w')) :
    Calls Try.prog 24 #[.pointer (some ⟨L.m, 0, none⟩), .int .u32 va, .int .i64 n, .bool u, .bool wr, .bool keep] w fun e w' => e = .returned (.tuple #[.int .u32 0, .agg #[.int .i64 1, .int .u32 va, .int .u32 j]]) ∧ Below w.heap.size w w' := by
  have M := Aside0.mk h
  have BX := box1 w (.cells #[.int .i64 0, .int .u32 0, .int .u32 0] 47 (0, 0))
  obtain ⟨W, hW⟩ : ∃ W, w.alloc (.cells #[.int .i64 0, .int .u32 0, .int .u32 0] 47 (0, 0)) = W := ⟨_, rfl⟩
  rw [hW] at BX
  have MW := Aside0.mk (M.out.then BX.1)
  have Z := Aside0.mk BX.2
  have BB := Aside0.mk BX.1
  have c0 : W.cell? ⟨L.m, 0, none⟩ = some (.pointer (some ⟨L.r, 0, none⟩)) := MW.out.cell 0
  have c1 : W.cell? ⟨L.m, 1, none⟩ = some (.pointer (some ⟨L.t, 0, none⟩)) := MW.out.cell 1
  have c6 : W.cell? ⟨L.m, 6, none⟩ = some (.int .u32 T.men) := MW.out.cell 6
  have c7 : W.cell? ⟨L.m, 7, none⟩ = some (.bool pl) := MW.out.cell 7
  have hv0 := hv.1
  have hv1 := hv.2
  have e0 : Int.tdiv va 512 = va / 512 := Int.tdiv_eq_ediv_of_nonneg hv0
  have e3 : va / 512 % 4294967296 = va / 512 := by omega
  clear h BX hv
  go_enter Try.func24, Try.ntmps24
  go_wp2_with (first
    | (go_at_call 58; (with_reducible refine (TG.out _ MW.out).mono ?_); rintro e w3 ⟨rfl, rfl⟩)
    | (go_at_call 60; (with_reducible refine (MY.out _).mono ?_); rintro e w3 ⟨rfl, rfl⟩)
    | (go_at_call 61; (with_reducible refine (BI.out _).mono ?_); rintro e w3 ⟨rfl, rfl⟩)
    | (go_at_call 63; (with_reducible refine (PP.out _).mono ?_); rintro e w3 ⟨rfl, rfl⟩)
    | (go_at_call 55; (with_reducible refine (TH.out _ _ _ _ MW.out).mono ?_); rintro e w3 ⟨rfl, rfl⟩)
    | (go_at_call 59; (with_reducible refine (F.out _).mono ?_); rintro e w6 ⟨rfl, hb⟩; have Z6 := Aside0.mk (row_then Z.out hb); have B6 := Aside0.mk hb; clear hb)
    | (refine wpList_store_row rfl 47 (.tmp 13) (.tmp 113) rfl w.heap.size #[.int .i64 1, .int .u32 va, .int .u32 j] rfl rfl _ _ Z6.out infoF rfl (by kernel_rfl) ?_))
  refine bodyPost_ret (results_tc rfl _ _ w.heap.size 47 #[.int .i64 1, .int .u32 va, .int .u32 j] (0, 0) _ rfl (setRow_heap _ _ _ _ 47 _ Z6.out) Try.underlying47 rfl infoF) rfl ⟨rfl, below_setRow (below_step BB.out B6.out) (Nat.le_refl _) _⟩
set_option maxRecDepth 100000 in
set_option maxHeartbeats 2000000 in
theorem rf_n_off (w : World) (base : Nat) (L : LocR) (vp ve : Value) (T : Tabs) (pl : Bool) (ps : List (Int × Int)) (l : List Int) (va x : Int) (n : Nat) (u wr keep : Bool) (hv : R32 va) (h : RmAt w base L vp ve T pl ps l) (hm : (T.men == 0) = false) (TG : Aside0 (∀ W, RmAt W base L vp ve T pl ps l → Calls Try.prog 58 #[.pointer (some ⟨L.t, 0, none⟩), .int .u32 (va / 512)] W fun e w' => e = .returned (.tuple #[.int .u32 x, .bool false]) ∧ W = w')) (at_ : Int) (EN : Aside0 (∀ W, RmAt W base L vp ve T pl ps l → Calls Try.prog 49 #[.pointer (some ⟨L.m, 0, none⟩), .int .u32 va] W fun e w' => e = .returned (.tuple #[.int .u32 at_, .bool false]) ∧ W = w')) (j : Int) (F : Aside0 (∀ W, Calls Try.prog 59 #[.int .i64 2, .int .u32 va, .int .u32 1, .bool wr] W fun e w' => e = .returned (.agg #[.int .i64 2, .int .u32 va, .int .u32 j]) ∧ Below W.heap.size W w')) :
    Calls Try.prog 24 #[.pointer (some ⟨L.m, 0, none⟩), .int .u32 va, .int .i64 n, .bool u, .bool wr, .bool keep] w fun e w' => e = .returned (.tuple #[.int .u32 0, .agg #[.int .i64 2, .int .u32 va, .int .u32 j]]) ∧ Below w.heap.size w w' := by
  have M := Aside0.mk h
  have BX := box1 w (.cells #[.int .i64 0, .int .u32 0, .int .u32 0] 47 (0, 0))
  obtain ⟨W, hW⟩ : ∃ W, w.alloc (.cells #[.int .i64 0, .int .u32 0, .int .u32 0] 47 (0, 0)) = W := ⟨_, rfl⟩
  rw [hW] at BX
  have MW := Aside0.mk (M.out.then BX.1)
  have Z := Aside0.mk BX.2
  have BB := Aside0.mk BX.1
  have c0 : W.cell? ⟨L.m, 0, none⟩ = some (.pointer (some ⟨L.r, 0, none⟩)) := MW.out.cell 0
  have c1 : W.cell? ⟨L.m, 1, none⟩ = some (.pointer (some ⟨L.t, 0, none⟩)) := MW.out.cell 1
  have c6 : W.cell? ⟨L.m, 6, none⟩ = some (.int .u32 T.men) := MW.out.cell 6
  have c7 : W.cell? ⟨L.m, 7, none⟩ = some (.bool pl) := MW.out.cell 7
  have hv0 := hv.1
  have hv1 := hv.2
  have e0 : Int.tdiv va 512 = va / 512 := Int.tdiv_eq_ediv_of_nonneg hv0
  have e3 : va / 512 % 4294967296 = va / 512 := by omega
  clear h BX hv
  go_enter Try.func24, Try.ntmps24
  go_wp2_with (first
    | (go_at_call 58; (with_reducible refine (TG.out _ MW.out).mono ?_); rintro e w3 ⟨rfl, rfl⟩)
    | (go_at_call 49; (with_reducible refine (EN.out _ MW.out).mono ?_); rintro e w3 ⟨rfl, rfl⟩)
    | (go_at_call 59; (with_reducible refine (F.out _).mono ?_); rintro e w6 ⟨rfl, hb⟩; have Z6 := Aside0.mk (row_then Z.out hb); have B6 := Aside0.mk hb; clear hb)
    | (refine wpList_store_row rfl 47 (.tmp 13) (.tmp 50) rfl w.heap.size #[.int .i64 2, .int .u32 va, .int .u32 j] rfl rfl _ _ Z6.out infoF rfl (by kernel_rfl) ?_))
  refine bodyPost_ret (results_tc rfl _ _ w.heap.size 47 #[.int .i64 2, .int .u32 va, .int .u32 j] (0, 0) _ rfl (setRow_heap _ _ _ _ 47 _ Z6.out) Try.underlying47 rfl infoF) rfl ⟨rfl, below_setRow (below_step BB.out B6.out) (Nat.le_refl _) _⟩
set_option maxRecDepth 100000 in
set_option maxHeartbeats 2000000 in
theorem rf_n_get (w : World) (base : Nat) (L : LocR) (vp ve : Value) (T : Tabs) (pl : Bool) (ps : List (Int × Int)) (l : List Int) (va x : Int) (n : Nat) (u wr keep : Bool) (hv : R32 va) (h : RmAt w base L vp ve T pl ps l) (hm : (T.men == 0) = false) (TG : Aside0 (∀ W, RmAt W base L vp ve T pl ps l → Calls Try.prog 58 #[.pointer (some ⟨L.t, 0, none⟩), .int .u32 (va / 512)] W fun e w' => e = .returned (.tuple #[.int .u32 x, .bool false]) ∧ W = w')) (at_ : Int) (EN : Aside0 (∀ W, RmAt W base L vp ve T pl ps l → Calls Try.prog 49 #[.pointer (some ⟨L.m, 0, none⟩), .int .u32 va] W fun e w' => e = .returned (.tuple #[.int .u32 at_, .bool true]) ∧ W = w')) (z er : Int) (her : (er == 0) = false) (RG : Aside0 (∀ W, RmAt W base L vp ve T pl ps l → Calls Try.prog 50 #[.pointer (some ⟨L.r, 0, none⟩), .int .u32 at_, .int .i64 4] W fun e w' => e = .returned (.tuple #[.int .u32 z, .int .i64 er]) ∧ W = w')) (j : Int) (F : Aside0 (∀ W, Calls Try.prog 59 #[.int .i64 1, .int .u32 va, .int .u32 0, .bool wr] W fun e w' => e = .returned (.agg #[.int .i64 1, .int .u32 va, .int .u32 j]) ∧ Below W.heap.size W w')) :
    Calls Try.prog 24 #[.pointer (some ⟨L.m, 0, none⟩), .int .u32 va, .int .i64 n, .bool u, .bool wr, .bool keep] w fun e w' => e = .returned (.tuple #[.int .u32 0, .agg #[.int .i64 1, .int .u32 va, .int .u32 j]]) ∧ Below w.heap.size w w' := by
  have M := Aside0.mk h
  have BX := box1 w (.cells #[.int .i64 0, .int .u32 0, .int .u32 0] 47 (0, 0))
  obtain ⟨W, hW⟩ : ∃ W, w.alloc (.cells #[.int .i64 0, .int .u32 0, .int .u32 0] 47 (0, 0)) = W := ⟨_, rfl⟩
  rw [hW] at BX
  have MW := Aside0.mk (M.out.then BX.1)
  have Z := Aside0.mk BX.2
  have BB := Aside0.mk BX.1
  have c0 : W.cell? ⟨L.m, 0, none⟩ = some (.pointer (some ⟨L.r, 0, none⟩)) := MW.out.cell 0
  have c1 : W.cell? ⟨L.m, 1, none⟩ = some (.pointer (some ⟨L.t, 0, none⟩)) := MW.out.cell 1
  have c6 : W.cell? ⟨L.m, 6, none⟩ = some (.int .u32 T.men) := MW.out.cell 6
  have c7 : W.cell? ⟨L.m, 7, none⟩ = some (.bool pl) := MW.out.cell 7
  have hv0 := hv.1
  have hv1 := hv.2
  have e0 : Int.tdiv va 512 = va / 512 := Int.tdiv_eq_ediv_of_nonneg hv0
  have e3 : va / 512 % 4294967296 = va / 512 := by omega
  clear h BX hv
  go_enter Try.func24, Try.ntmps24
  go_wp2_with (first
    | (go_at_call 58; (with_reducible refine (TG.out _ MW.out).mono ?_); rintro e w3 ⟨rfl, rfl⟩)
    | (go_at_call 49; (with_reducible refine (EN.out _ MW.out).mono ?_); rintro e w3 ⟨rfl, rfl⟩)
    | (go_at_call 50; (with_reducible refine (RG.out _ MW.out).mono ?_); rintro e w3 ⟨rfl, rfl⟩)
    | (go_at_call 59; (with_reducible refine (F.out _).mono ?_); rintro e w6 ⟨rfl, hb⟩; have Z6 := Aside0.mk (row_then Z.out hb); have B6 := Aside0.mk hb; clear hb)
    | (refine wpList_store_row rfl 47 (.tmp 13) (.tmp 64) rfl w.heap.size #[.int .i64 1, .int .u32 va, .int .u32 j] rfl rfl _ _ Z6.out infoF rfl (by kernel_rfl) ?_))
  refine bodyPost_ret (results_tc rfl _ _ w.heap.size 47 #[.int .i64 1, .int .u32 va, .int .u32 j] (0, 0) _ rfl (setRow_heap _ _ _ _ 47 _ Z6.out) Try.underlying47 rfl infoF) rfl ⟨rfl, below_setRow (below_step BB.out B6.out) (Nat.le_refl _) _⟩
set_option maxRecDepth 100000 in
set_option maxHeartbeats 2000000 in
theorem rf_n_may (w : World) (base : Nat) (L : LocR) (vp ve : Value) (T : Tabs) (pl : Bool) (ps : List (Int × Int)) (l : List Int) (va x : Int) (n : Nat) (u wr keep : Bool) (hv : R32 va) (h : RmAt w base L vp ve T pl ps l) (hm : (T.men == 0) = false) (TG : Aside0 (∀ W, RmAt W base L vp ve T pl ps l → Calls Try.prog 58 #[.pointer (some ⟨L.t, 0, none⟩), .int .u32 (va / 512)] W fun e w' => e = .returned (.tuple #[.int .u32 x, .bool false]) ∧ W = w')) (at_ : Int) (EN : Aside0 (∀ W, RmAt W base L vp ve T pl ps l → Calls Try.prog 49 #[.pointer (some ⟨L.m, 0, none⟩), .int .u32 va] W fun e w' => e = .returned (.tuple #[.int .u32 at_, .bool true]) ∧ W = w')) (z er : Int) (her : (er == 0) = true) (RG : Aside0 (∀ W, RmAt W base L vp ve T pl ps l → Calls Try.prog 50 #[.pointer (some ⟨L.r, 0, none⟩), .int .u32 at_, .int .i64 4] W fun e w' => e = .returned (.tuple #[.int .u32 z, .int .i64 er]) ∧ W = w')) (MY : Aside0 (∀ W, Calls Try.prog 60 #[.int .u32 z, .bool u, .bool wr] W fun e w' => e = .returned (.bool false) ∧ W = w')) (j : Int) (F : Aside0 (∀ W, Calls Try.prog 59 #[.int .i64 2, .int .u32 va, .int .u32 0, .bool wr] W fun e w' => e = .returned (.agg #[.int .i64 2, .int .u32 va, .int .u32 j]) ∧ Below W.heap.size W w')) :
    Calls Try.prog 24 #[.pointer (some ⟨L.m, 0, none⟩), .int .u32 va, .int .i64 n, .bool u, .bool wr, .bool keep] w fun e w' => e = .returned (.tuple #[.int .u32 0, .agg #[.int .i64 2, .int .u32 va, .int .u32 j]]) ∧ Below w.heap.size w w' := by
  have M := Aside0.mk h
  have BX := box1 w (.cells #[.int .i64 0, .int .u32 0, .int .u32 0] 47 (0, 0))
  obtain ⟨W, hW⟩ : ∃ W, w.alloc (.cells #[.int .i64 0, .int .u32 0, .int .u32 0] 47 (0, 0)) = W := ⟨_, rfl⟩
  rw [hW] at BX
  have MW := Aside0.mk (M.out.then BX.1)
  have Z := Aside0.mk BX.2
  have BB := Aside0.mk BX.1
  have c0 : W.cell? ⟨L.m, 0, none⟩ = some (.pointer (some ⟨L.r, 0, none⟩)) := MW.out.cell 0
  have c1 : W.cell? ⟨L.m, 1, none⟩ = some (.pointer (some ⟨L.t, 0, none⟩)) := MW.out.cell 1
  have c6 : W.cell? ⟨L.m, 6, none⟩ = some (.int .u32 T.men) := MW.out.cell 6
  have c7 : W.cell? ⟨L.m, 7, none⟩ = some (.bool pl) := MW.out.cell 7
  have hv0 := hv.1
  have hv1 := hv.2
  have e0 : Int.tdiv va 512 = va / 512 := Int.tdiv_eq_ediv_of_nonneg hv0
  have e3 : va / 512 % 4294967296 = va / 512 := by omega
  clear h BX hv
  go_enter Try.func24, Try.ntmps24
  go_wp2_with (first
    | (go_at_call 58; (with_reducible refine (TG.out _ MW.out).mono ?_); rintro e w3 ⟨rfl, rfl⟩)
    | (go_at_call 49; (with_reducible refine (EN.out _ MW.out).mono ?_); rintro e w3 ⟨rfl, rfl⟩)
    | (go_at_call 50; (with_reducible refine (RG.out _ MW.out).mono ?_); rintro e w3 ⟨rfl, rfl⟩)
    | (go_at_call 60; (with_reducible refine (MY.out _).mono ?_); rintro e w3 ⟨rfl, rfl⟩)
    | (go_at_call 59; (with_reducible refine (F.out _).mono ?_); rintro e w6 ⟨rfl, hb⟩; have Z6 := Aside0.mk (row_then Z.out hb); have B6 := Aside0.mk hb; clear hb)
    | (refine wpList_store_row rfl 47 (.tmp 13) (.tmp 73) rfl w.heap.size #[.int .i64 2, .int .u32 va, .int .u32 j] rfl rfl _ _ Z6.out infoF rfl (by kernel_rfl) ?_))
  refine bodyPost_ret (results_tc rfl _ _ w.heap.size 47 #[.int .i64 2, .int .u32 va, .int .u32 j] (0, 0) _ rfl (setRow_heap _ _ _ _ 47 _ Z6.out) Try.underlying47 rfl infoF) rfl ⟨rfl, below_setRow (below_step BB.out B6.out) (Nat.le_refl _) _⟩
set_option maxRecDepth 100000 in
set_option maxHeartbeats 2000000 in
theorem rf_n_is (w : World) (base : Nat) (L : LocR) (vp ve : Value) (T : Tabs) (pl : Bool) (ps : List (Int × Int)) (l : List Int) (va x : Int) (n : Nat) (u wr keep : Bool) (hv : R32 va) (h : RmAt w base L vp ve T pl ps l) (hm : (T.men == 0) = false) (TG : Aside0 (∀ W, RmAt W base L vp ve T pl ps l → Calls Try.prog 58 #[.pointer (some ⟨L.t, 0, none⟩), .int .u32 (va / 512)] W fun e w' => e = .returned (.tuple #[.int .u32 x, .bool false]) ∧ W = w')) (at_ : Int) (EN : Aside0 (∀ W, RmAt W base L vp ve T pl ps l → Calls Try.prog 49 #[.pointer (some ⟨L.m, 0, none⟩), .int .u32 va] W fun e w' => e = .returned (.tuple #[.int .u32 at_, .bool true]) ∧ W = w')) (z er : Int) (her : (er == 0) = true) (RG : Aside0 (∀ W, RmAt W base L vp ve T pl ps l → Calls Try.prog 50 #[.pointer (some ⟨L.r, 0, none⟩), .int .u32 at_, .int .i64 4] W fun e w' => e = .returned (.tuple #[.int .u32 z, .int .i64 er]) ∧ W = w')) (MY : Aside0 (∀ W, Calls Try.prog 60 #[.int .u32 z, .bool u, .bool wr] W fun e w' => e = .returned (.bool true) ∧ W = w')) (BI : Aside0 (∀ W, Calls Try.prog 61 #[.int .u32 z, .int .i64 31] W fun e w' => e = .returned (.bool false) ∧ W = w')) (j : Int) (F : Aside0 (∀ W, Calls Try.prog 59 #[.int .i64 3, .int .u32 va, .int .u32 0, .bool wr] W fun e w' => e = .returned (.agg #[.int .i64 3, .int .u32 va, .int .u32 j]) ∧ Below W.heap.size W w')) :
    Calls Try.prog 24 #[.pointer (some ⟨L.m, 0, none⟩), .int .u32 va, .int .i64 n, .bool u, .bool wr, .bool keep] w fun e w' => e = .returned (.tuple #[.int .u32 0, .agg #[.int .i64 3, .int .u32 va, .int .u32 j]]) ∧ Below w.heap.size w w' := by
  have M := Aside0.mk h
  have BX := box1 w (.cells #[.int .i64 0, .int .u32 0, .int .u32 0] 47 (0, 0))
  obtain ⟨W, hW⟩ : ∃ W, w.alloc (.cells #[.int .i64 0, .int .u32 0, .int .u32 0] 47 (0, 0)) = W := ⟨_, rfl⟩
  rw [hW] at BX
  have MW := Aside0.mk (M.out.then BX.1)
  have Z := Aside0.mk BX.2
  have BB := Aside0.mk BX.1
  have c0 : W.cell? ⟨L.m, 0, none⟩ = some (.pointer (some ⟨L.r, 0, none⟩)) := MW.out.cell 0
  have c1 : W.cell? ⟨L.m, 1, none⟩ = some (.pointer (some ⟨L.t, 0, none⟩)) := MW.out.cell 1
  have c6 : W.cell? ⟨L.m, 6, none⟩ = some (.int .u32 T.men) := MW.out.cell 6
  have c7 : W.cell? ⟨L.m, 7, none⟩ = some (.bool pl) := MW.out.cell 7
  have hv0 := hv.1
  have hv1 := hv.2
  have e0 : Int.tdiv va 512 = va / 512 := Int.tdiv_eq_ediv_of_nonneg hv0
  have e3 : va / 512 % 4294967296 = va / 512 := by omega
  clear h BX hv
  go_enter Try.func24, Try.ntmps24
  go_wp2_with (first
    | (go_at_call 58; (with_reducible refine (TG.out _ MW.out).mono ?_); rintro e w3 ⟨rfl, rfl⟩)
    | (go_at_call 49; (with_reducible refine (EN.out _ MW.out).mono ?_); rintro e w3 ⟨rfl, rfl⟩)
    | (go_at_call 50; (with_reducible refine (RG.out _ MW.out).mono ?_); rintro e w3 ⟨rfl, rfl⟩)
    | (go_at_call 60; (with_reducible refine (MY.out _).mono ?_); rintro e w3 ⟨rfl, rfl⟩)
    | (go_at_call 61; (with_reducible refine (BI.out _).mono ?_); rintro e w3 ⟨rfl, rfl⟩)
    | (go_at_call 59; (with_reducible refine (F.out _).mono ?_); rintro e w6 ⟨rfl, hb⟩; have Z6 := Aside0.mk (row_then Z.out hb); have B6 := Aside0.mk hb; clear hb)
    | (refine wpList_store_row rfl 47 (.tmp 13) (.tmp 79) rfl w.heap.size #[.int .i64 3, .int .u32 va, .int .u32 j] rfl rfl _ _ Z6.out infoF rfl (by kernel_rfl) ?_))
  refine bodyPost_ret (results_tc rfl _ _ w.heap.size 47 #[.int .i64 3, .int .u32 va, .int .u32 j] (0, 0) _ rfl (setRow_heap _ _ _ _ 47 _ Z6.out) Try.underlying47 rfl infoF) rfl ⟨rfl, below_setRow (below_step BB.out B6.out) (Nat.le_refl _) _⟩
set_option maxRecDepth 100000 in
set_option maxHeartbeats 2000000 in
theorem rf_n_okk (w : World) (base : Nat) (L : LocR) (vp ve : Value) (T : Tabs) (pl : Bool) (ps : List (Int × Int)) (l : List Int) (va x : Int) (n : Nat) (u wr : Bool) (hv : R32 va) (h : RmAt w base L vp ve T pl ps l) (hm : (T.men == 0) = false) (hpl : pl = false) (TG : Aside0 (∀ W, RmAt W base L vp ve T pl ps l → Calls Try.prog 58 #[.pointer (some ⟨L.t, 0, none⟩), .int .u32 (va / 512)] W fun e w' => e = .returned (.tuple #[.int .u32 x, .bool false]) ∧ W = w')) (at_ : Int) (EN : Aside0 (∀ W, RmAt W base L vp ve T pl ps l → Calls Try.prog 49 #[.pointer (some ⟨L.m, 0, none⟩), .int .u32 va] W fun e w' => e = .returned (.tuple #[.int .u32 at_, .bool true]) ∧ W = w')) (z er : Int) (her : (er == 0) = true) (RG : Aside0 (∀ W, RmAt W base L vp ve T pl ps l → Calls Try.prog 50 #[.pointer (some ⟨L.r, 0, none⟩), .int .u32 at_, .int .i64 4] W fun e w' => e = .returned (.tuple #[.int .u32 z, .int .i64 er]) ∧ W = w')) (MY : Aside0 (∀ W, Calls Try.prog 60 #[.int .u32 z, .bool u, .bool wr] W fun e w' => e = .returned (.bool true) ∧ W = w')) (BI : Aside0 (∀ W, Calls Try.prog 61 #[.int .u32 z, .int .i64 31] W fun e w' => e = .returned (.bool true) ∧ W = w')) (PT : Aside0 (∀ W, RmAt W base L vp ve T pl ps l → Calls Try.prog 62 #[.pointer (some ⟨L.t, 0, none⟩), .int .u32 (va / 512), .int .u32 z] W fun e w' => e = .returned (.tuple #[]) ∧ RStep W w' base L vp ve T pl (putP (va / 512) z ps) l)) (pa : Int) (PP : Aside0 (∀ W, Calls Try.prog 63 #[.int .u32 z, .int .u32 va] W fun e w' => e = .returned (.int .u32 pa) ∧ W = w')) (TH : Aside0 (∀ W vp' ve' ps', RmAt W base L vp' ve' T pl ps' l → Calls Try.prog 55 #[.pointer (some ⟨L.r, 0, none⟩), .int .u32 pa, .int .i64 n] W fun e w' => e = .returned (.bool true) ∧ W = w')) :
    Calls Try.prog 24 #[.pointer (some ⟨L.m, 0, none⟩), .int .u32 va, .int .i64 n, .bool u, .bool wr, .bool true] w fun e w' => e = .returned (.tuple #[.int .u32 pa, .agg #[.int .i64 0, .int .u32 0, .int .u32 0]]) ∧ RStep w w' base L vp ve T pl (putP (va / 512) z ps) l := by
  subst hpl
  have M := Aside0.mk h
  have BX := box1 w (.cells #[.int .i64 0, .int .u32 0, .int .u32 0] 47 (0, 0))
  obtain ⟨W, hW⟩ : ∃ W, w.alloc (.cells #[.int .i64 0, .int .u32 0, .int .u32 0] 47 (0, 0)) = W := ⟨_, rfl⟩
  rw [hW] at BX
  have MW := Aside0.mk (M.out.then BX.1)
  have Z := Aside0.mk BX.2
  have BB := Aside0.mk BX.1
  have c0 : W.cell? ⟨L.m, 0, none⟩ = some (.pointer (some ⟨L.r, 0, none⟩)) := MW.out.cell 0
  have c1 : W.cell? ⟨L.m, 1, none⟩ = some (.pointer (some ⟨L.t, 0, none⟩)) := MW.out.cell 1
  have c6 : W.cell? ⟨L.m, 6, none⟩ = some (.int .u32 T.men) := MW.out.cell 6
  have c7 : W.cell? ⟨L.m, 7, none⟩ = some (.bool false) := MW.out.cell 7
  have hv0 := hv.1
  have hv1 := hv.2
  have e0 : Int.tdiv va 512 = va / 512 := Int.tdiv_eq_ediv_of_nonneg hv0
  have e3 : va / 512 % 4294967296 = va / 512 := by omega
  clear h BX hv
  go_enter Try.func24, Try.ntmps24
  go_wp2_with (first
    | (go_at_call 58; (with_reducible refine (TG.out _ MW.out).mono ?_); rintro e w3 ⟨rfl, rfl⟩)
    | (go_at_call 49; (with_reducible refine (EN.out _ MW.out).mono ?_); rintro e w3 ⟨rfl, rfl⟩)
    | (go_at_call 50; (with_reducible refine (RG.out _ MW.out).mono ?_); rintro e w3 ⟨rfl, rfl⟩)
    | (go_at_call 60; (with_reducible refine (MY.out _).mono ?_); rintro e w3 ⟨rfl, rfl⟩)
    | (go_at_call 61; (with_reducible refine (BI.out _).mono ?_); rintro e w3 ⟨rfl, rfl⟩)
    | (go_at_call 62; (with_reducible refine (PT.out _ MW.out).mono ?_); rintro e w7 ⟨rfl, s7⟩; have S7 := Aside0.mk s7; obtain ⟨vp7, ve7, m7, _, _⟩ := s7.at_; have M7 := Aside0.mk m7; have Z7 := Aside0.mk (s7.box MW.out Z.out (by unfold rTy; decide)); have d0 : w7.cell? ⟨L.m, 0, none⟩ = some (.pointer (some ⟨L.r, 0, none⟩)) := m7.cell 0; clear s7 m7)
    | (go_at_call 63; (with_reducible refine (PP.out _).mono ?_); rintro e w3 ⟨rfl, rfl⟩)
    | (go_at_call 55; (with_reducible refine (TH.out _ _ _ _ M7.out).mono ?_); rintro e w3 ⟨rfl, rfl⟩)
    | (refine wpList_store_row rfl 47 (.tmp 13) (.tmp 115) rfl w.heap.size #[.int .i64 0, .int .u32 0, .int .u32 0] rfl rfl _ _ Z7.out infoF rfl (by kernel_rfl) ?_))
  refine bodyPost_ret (results_tc rfl _ _ w.heap.size 47 #[.int .i64 0, .int .u32 0, .int .u32 0] (0, 0) _ rfl (setRow_heap _ _ _ _ 47 _ Z7.out) Try.underlying47 rfl infoF) rfl ⟨rfl, RStep.setRow ((RStep.after BB.out S7.out)) (Nat.le_refl _) Z7.out (by unfold rTy; decide) _⟩
set_option maxRecDepth 100000 in
set_option maxHeartbeats 2000000 in
theorem rf_n_okn (w : World) (base : Nat) (L : LocR) (vp ve : Value) (T : Tabs) (pl : Bool) (ps : List (Int × Int)) (l : List Int) (va x : Int) (n : Nat) (u wr : Bool) (hv : R32 va) (h : RmAt w base L vp ve T pl ps l) (hm : (T.men == 0) = false) (TG : Aside0 (∀ W, RmAt W base L vp ve T pl ps l → Calls Try.prog 58 #[.pointer (some ⟨L.t, 0, none⟩), .int .u32 (va / 512)] W fun e w' => e = .returned (.tuple #[.int .u32 x, .bool false]) ∧ W = w')) (at_ : Int) (EN : Aside0 (∀ W, RmAt W base L vp ve T pl ps l → Calls Try.prog 49 #[.pointer (some ⟨L.m, 0, none⟩), .int .u32 va] W fun e w' => e = .returned (.tuple #[.int .u32 at_, .bool true]) ∧ W = w')) (z er : Int) (her : (er == 0) = true) (RG : Aside0 (∀ W, RmAt W base L vp ve T pl ps l → Calls Try.prog 50 #[.pointer (some ⟨L.r, 0, none⟩), .int .u32 at_, .int .i64 4] W fun e w' => e = .returned (.tuple #[.int .u32 z, .int .i64 er]) ∧ W = w')) (MY : Aside0 (∀ W, Calls Try.prog 60 #[.int .u32 z, .bool u, .bool wr] W fun e w' => e = .returned (.bool true) ∧ W = w')) (BI : Aside0 (∀ W, Calls Try.prog 61 #[.int .u32 z, .int .i64 31] W fun e w' => e = .returned (.bool true) ∧ W = w')) (pa : Int) (PP : Aside0 (∀ W, Calls Try.prog 63 #[.int .u32 z, .int .u32 va] W fun e w' => e = .returned (.int .u32 pa) ∧ W = w')) (TH : Aside0 (∀ W vp' ve' ps', RmAt W base L vp' ve' T pl ps' l → Calls Try.prog 55 #[.pointer (some ⟨L.r, 0, none⟩), .int .u32 pa, .int .i64 n] W fun e w' => e = .returned (.bool true) ∧ W = w')) :
    Calls Try.prog 24 #[.pointer (some ⟨L.m, 0, none⟩), .int .u32 va, .int .i64 n, .bool u, .bool wr, .bool false] w fun e w' => e = .returned (.tuple #[.int .u32 pa, .agg #[.int .i64 0, .int .u32 0, .int .u32 0]]) ∧ Below w.heap.size w w' := by
  have M := Aside0.mk h
  have BX := box1 w (.cells #[.int .i64 0, .int .u32 0, .int .u32 0] 47 (0, 0))
  obtain ⟨W, hW⟩ : ∃ W, w.alloc (.cells #[.int .i64 0, .int .u32 0, .int .u32 0] 47 (0, 0)) = W := ⟨_, rfl⟩
  rw [hW] at BX
  have MW := Aside0.mk (M.out.then BX.1)
  have Z := Aside0.mk BX.2
  have BB := Aside0.mk BX.1
  have c0 : W.cell? ⟨L.m, 0, none⟩ = some (.pointer (some ⟨L.r, 0, none⟩)) := MW.out.cell 0
  have c1 : W.cell? ⟨L.m, 1, none⟩ = some (.pointer (some ⟨L.t, 0, none⟩)) := MW.out.cell 1
  have c6 : W.cell? ⟨L.m, 6, none⟩ = some (.int .u32 T.men) := MW.out.cell 6
  have c7 : W.cell? ⟨L.m, 7, none⟩ = some (.bool pl) := MW.out.cell 7
  have hv0 := hv.1
  have hv1 := hv.2
  have e0 : Int.tdiv va 512 = va / 512 := Int.tdiv_eq_ediv_of_nonneg hv0
  have e3 : va / 512 % 4294967296 = va / 512 := by omega
  clear h BX hv
  go_enter Try.func24, Try.ntmps24
  go_wp2_with (first
    | (go_at_call 58; (with_reducible refine (TG.out _ MW.out).mono ?_); rintro e w3 ⟨rfl, rfl⟩)
    | (go_at_call 49; (with_reducible refine (EN.out _ MW.out).mono ?_); rintro e w3 ⟨rfl, rfl⟩)
    | (go_at_call 50; (with_reducible refine (RG.out _ MW.out).mono ?_); rintro e w3 ⟨rfl, rfl⟩)
    | (go_at_call 60; (with_reducible refine (MY.out _).mono ?_); rintro e w3 ⟨rfl, rfl⟩)
    | (go_at_call 61; (with_reducible refine (BI.out _).mono ?_); rintro e w3 ⟨rfl, rfl⟩)
    | (go_at_call 63; (with_reducible refine (PP.out _).mono ?_); rintro e w3 ⟨rfl, rfl⟩)
    | (go_at_call 55; (with_reducible refine (TH.out _ _ _ _ MW.out).mono ?_); rintro e w3 ⟨rfl, rfl⟩)
    | (refine wpList_store_row rfl 47 (.tmp 13) (.tmp 115) rfl w.heap.size #[.int .i64 0, .int .u32 0, .int .u32 0] rfl rfl _ _ Z.out infoF rfl (by kernel_rfl) ?_))
  refine bodyPost_ret (results_tc rfl _ _ w.heap.size 47 #[.int .i64 0, .int .u32 0, .int .u32 0] (0, 0) _ rfl (setRow_heap _ _ _ _ 47 _ Z.out) Try.underlying47 rfl infoF) rfl ⟨rfl, below_setRow BB.out (Nat.le_refl _) _⟩
set_option maxRecDepth 100000 in
set_option maxHeartbeats 2000000 in
theorem rf_n_okp (w : World) (base : Nat) (L : LocR) (vp ve : Value) (T : Tabs) (pl : Bool) (ps : List (Int × Int)) (l : List Int) (va x : Int) (n : Nat) (u wr : Bool) (hv : R32 va) (h : RmAt w base L vp ve T pl ps l) (hm : (T.men == 0) = false) (hpl : pl = true) (TG : Aside0 (∀ W, RmAt W base L vp ve T pl ps l → Calls Try.prog 58 #[.pointer (some ⟨L.t, 0, none⟩), .int .u32 (va / 512)] W fun e w' => e = .returned (.tuple #[.int .u32 x, .bool false]) ∧ W = w')) (at_ : Int) (EN : Aside0 (∀ W, RmAt W base L vp ve T pl ps l → Calls Try.prog 49 #[.pointer (some ⟨L.m, 0, none⟩), .int .u32 va] W fun e w' => e = .returned (.tuple #[.int .u32 at_, .bool true]) ∧ W = w')) (z er : Int) (her : (er == 0) = true) (RG : Aside0 (∀ W, RmAt W base L vp ve T pl ps l → Calls Try.prog 50 #[.pointer (some ⟨L.r, 0, none⟩), .int .u32 at_, .int .i64 4] W fun e w' => e = .returned (.tuple #[.int .u32 z, .int .i64 er]) ∧ W = w')) (MY : Aside0 (∀ W, Calls Try.prog 60 #[.int .u32 z, .bool u, .bool wr] W fun e w' => e = .returned (.bool true) ∧ W = w')) (BI : Aside0 (∀ W, Calls Try.prog 61 #[.int .u32 z, .int .i64 31] W fun e w' => e = .returned (.bool true) ∧ W = w')) (pa : Int) (PP : Aside0 (∀ W, Calls Try.prog 63 #[.int .u32 z, .int .u32 va] W fun e w' => e = .returned (.int .u32 pa) ∧ W = w')) (TH : Aside0 (∀ W vp' ve' ps', RmAt W base L vp' ve' T pl ps' l → Calls Try.prog 55 #[.pointer (some ⟨L.r, 0, none⟩), .int .u32 pa, .int .i64 n] W fun e w' => e = .returned (.bool true) ∧ W = w')) :
    Calls Try.prog 24 #[.pointer (some ⟨L.m, 0, none⟩), .int .u32 va, .int .i64 n, .bool u, .bool wr, .bool true] w fun e w' => e = .returned (.tuple #[.int .u32 pa, .agg #[.int .i64 0, .int .u32 0, .int .u32 0]]) ∧ Below w.heap.size w w' := by
  subst hpl
  have M := Aside0.mk h
  have BX := box1 w (.cells #[.int .i64 0, .int .u32 0, .int .u32 0] 47 (0, 0))
  obtain ⟨W, hW⟩ : ∃ W, w.alloc (.cells #[.int .i64 0, .int .u32 0, .int .u32 0] 47 (0, 0)) = W := ⟨_, rfl⟩
  rw [hW] at BX
  have MW := Aside0.mk (M.out.then BX.1)
  have Z := Aside0.mk BX.2
  have BB := Aside0.mk BX.1
  have c0 : W.cell? ⟨L.m, 0, none⟩ = some (.pointer (some ⟨L.r, 0, none⟩)) := MW.out.cell 0
  have c1 : W.cell? ⟨L.m, 1, none⟩ = some (.pointer (some ⟨L.t, 0, none⟩)) := MW.out.cell 1
  have c6 : W.cell? ⟨L.m, 6, none⟩ = some (.int .u32 T.men) := MW.out.cell 6
  have c7 : W.cell? ⟨L.m, 7, none⟩ = some (.bool true) := MW.out.cell 7
  have hv0 := hv.1
  have hv1 := hv.2
  have e0 : Int.tdiv va 512 = va / 512 := Int.tdiv_eq_ediv_of_nonneg hv0
  have e3 : va / 512 % 4294967296 = va / 512 := by omega
  clear h BX hv
  go_enter Try.func24, Try.ntmps24
  go_wp2_with (first
    | (go_at_call 58; (with_reducible refine (TG.out _ MW.out).mono ?_); rintro e w3 ⟨rfl, rfl⟩)
    | (go_at_call 49; (with_reducible refine (EN.out _ MW.out).mono ?_); rintro e w3 ⟨rfl, rfl⟩)
    | (go_at_call 50; (with_reducible refine (RG.out _ MW.out).mono ?_); rintro e w3 ⟨rfl, rfl⟩)
    | (go_at_call 60; (with_reducible refine (MY.out _).mono ?_); rintro e w3 ⟨rfl, rfl⟩)
    | (go_at_call 61; (with_reducible refine (BI.out _).mono ?_); rintro e w3 ⟨rfl, rfl⟩)
    | (go_at_call 63; (with_reducible refine (PP.out _).mono ?_); rintro e w3 ⟨rfl, rfl⟩)
    | (go_at_call 55; (with_reducible refine (TH.out _ _ _ _ MW.out).mono ?_); rintro e w3 ⟨rfl, rfl⟩)
    | (refine wpList_store_row rfl 47 (.tmp 13) (.tmp 115) rfl w.heap.size #[.int .i64 0, .int .u32 0, .int .u32 0] rfl rfl _ _ Z.out infoF rfl (by kernel_rfl) ?_))
  refine bodyPost_ret (results_tc rfl _ _ w.heap.size 47 #[.int .i64 0, .int .u32 0, .int .u32 0] (0, 0) _ rfl (setRow_heap _ _ _ _ 47 _ Z.out) Try.underlying47 rfl infoF) rfl ⟨rfl, below_setRow BB.out (Nat.le_refl _) _⟩
set_option maxRecDepth 100000 in
set_option maxHeartbeats 2000000 in
theorem rf_n_busk (w : World) (base : Nat) (L : LocR) (vp ve : Value) (T : Tabs) (pl : Bool) (ps : List (Int × Int)) (l : List Int) (va x : Int) (n : Nat) (u wr : Bool) (hv : R32 va) (h : RmAt w base L vp ve T pl ps l) (hm : (T.men == 0) = false) (hpl : pl = false) (TG : Aside0 (∀ W, RmAt W base L vp ve T pl ps l → Calls Try.prog 58 #[.pointer (some ⟨L.t, 0, none⟩), .int .u32 (va / 512)] W fun e w' => e = .returned (.tuple #[.int .u32 x, .bool false]) ∧ W = w')) (at_ : Int) (EN : Aside0 (∀ W, RmAt W base L vp ve T pl ps l → Calls Try.prog 49 #[.pointer (some ⟨L.m, 0, none⟩), .int .u32 va] W fun e w' => e = .returned (.tuple #[.int .u32 at_, .bool true]) ∧ W = w')) (z er : Int) (her : (er == 0) = true) (RG : Aside0 (∀ W, RmAt W base L vp ve T pl ps l → Calls Try.prog 50 #[.pointer (some ⟨L.r, 0, none⟩), .int .u32 at_, .int .i64 4] W fun e w' => e = .returned (.tuple #[.int .u32 z, .int .i64 er]) ∧ W = w')) (MY : Aside0 (∀ W, Calls Try.prog 60 #[.int .u32 z, .bool u, .bool wr] W fun e w' => e = .returned (.bool true) ∧ W = w')) (BI : Aside0 (∀ W, Calls Try.prog 61 #[.int .u32 z, .int .i64 31] W fun e w' => e = .returned (.bool true) ∧ W = w')) (PT : Aside0 (∀ W, RmAt W base L vp ve T pl ps l → Calls Try.prog 62 #[.pointer (some ⟨L.t, 0, none⟩), .int .u32 (va / 512), .int .u32 z] W fun e w' => e = .returned (.tuple #[]) ∧ RStep W w' base L vp ve T pl (putP (va / 512) z ps) l)) (pa : Int) (PP : Aside0 (∀ W, Calls Try.prog 63 #[.int .u32 z, .int .u32 va] W fun e w' => e = .returned (.int .u32 pa) ∧ W = w')) (TH : Aside0 (∀ W vp' ve' ps', RmAt W base L vp' ve' T pl ps' l → Calls Try.prog 55 #[.pointer (some ⟨L.r, 0, none⟩), .int .u32 pa, .int .i64 n] W fun e w' => e = .returned (.bool false) ∧ W = w')) (j : Int) (F : Aside0 (∀ W, Calls Try.prog 59 #[.int .i64 1, .int .u32 va, .int .u32 0, .bool wr] W fun e w' => e = .returned (.agg #[.int .i64 1, .int .u32 va, .int .u32 j]) ∧ Below W.heap.size W w')) :
    Calls Try.prog 24 #[.pointer (some ⟨L.m, 0, none⟩), .int .u32 va, .int .i64 n, .bool u, .bool wr, .bool true] w fun e w' => e = .returned (.tuple #[.int .u32 0, .agg #[.int .i64 1, .int .u32 va, .int .u32 j]]) ∧ RStep w w' base L vp ve T pl (putP (va / 512) z ps) l := by
  subst hpl
  have M := Aside0.mk h
  have BX := box1 w (.cells #[.int .i64 0, .int .u32 0, .int .u32 0] 47 (0, 0))
  obtain ⟨W, hW⟩ : ∃ W, w.alloc (.cells #[.int .i64 0, .int .u32 0, .int .u32 0] 47 (0, 0)) = W := ⟨_, rfl⟩
  rw [hW] at BX
  have MW := Aside0.mk (M.out.then BX.1)
  have Z := Aside0.mk BX.2
  have BB := Aside0.mk BX.1
  have c0 : W.cell? ⟨L.m, 0, none⟩ = some (.pointer (some ⟨L.r, 0, none⟩)) := MW.out.cell 0
  have c1 : W.cell? ⟨L.m, 1, none⟩ = some (.pointer (some ⟨L.t, 0, none⟩)) := MW.out.cell 1
  have c6 : W.cell? ⟨L.m, 6, none⟩ = some (.int .u32 T.men) := MW.out.cell 6
  have c7 : W.cell? ⟨L.m, 7, none⟩ = some (.bool false) := MW.out.cell 7
  have hv0 := hv.1
  have hv1 := hv.2
  have e0 : Int.tdiv va 512 = va / 512 := Int.tdiv_eq_ediv_of_nonneg hv0
  have e3 : va / 512 % 4294967296 = va / 512 := by omega
  clear h BX hv
  go_enter Try.func24, Try.ntmps24
  go_wp2_with (first
    | (go_at_call 58; (with_reducible refine (TG.out _ MW.out).mono ?_); rintro e w3 ⟨rfl, rfl⟩)
    | (go_at_call 49; (with_reducible refine (EN.out _ MW.out).mono ?_); rintro e w3 ⟨rfl, rfl⟩)
    | (go_at_call 50; (with_reducible refine (RG.out _ MW.out).mono ?_); rintro e w3 ⟨rfl, rfl⟩)
    | (go_at_call 60; (with_reducible refine (MY.out _).mono ?_); rintro e w3 ⟨rfl, rfl⟩)
    | (go_at_call 61; (with_reducible refine (BI.out _).mono ?_); rintro e w3 ⟨rfl, rfl⟩)
    | (go_at_call 62; (with_reducible refine (PT.out _ MW.out).mono ?_); rintro e w7 ⟨rfl, s7⟩; have S7 := Aside0.mk s7; obtain ⟨vp7, ve7, m7, _, _⟩ := s7.at_; have M7 := Aside0.mk m7; have Z7 := Aside0.mk (s7.box MW.out Z.out (by unfold rTy; decide)); have d0 : w7.cell? ⟨L.m, 0, none⟩ = some (.pointer (some ⟨L.r, 0, none⟩)) := m7.cell 0; clear s7 m7)
    | (go_at_call 63; (with_reducible refine (PP.out _).mono ?_); rintro e w3 ⟨rfl, rfl⟩)
    | (go_at_call 55; (with_reducible refine (TH.out _ _ _ _ M7.out).mono ?_); rintro e w3 ⟨rfl, rfl⟩)
    | (go_at_call 59; (with_reducible refine (F.out _).mono ?_); rintro e w6 ⟨rfl, hb⟩; have Z6 := Aside0.mk (row_then Z7.out hb); have B6 := Aside0.mk hb; clear hb)
    | (refine wpList_store_row rfl 47 (.tmp 13) (.tmp 113) rfl w.heap.size #[.int .i64 1, .int .u32 va, .int .u32 j] rfl rfl _ _ Z6.out infoF rfl (by kernel_rfl) ?_))
  refine bodyPost_ret (results_tc rfl _ _ w.heap.size 47 #[.int .i64 1, .int .u32 va, .int .u32 j] (0, 0) _ rfl (setRow_heap _ _ _ _ 47 _ Z6.out) Try.underlying47 rfl infoF) rfl ⟨rfl, RStep.setRow ((RStep.after BB.out S7.out).then B6.out) (Nat.le_refl _) Z6.out (by unfold rTy; decide) _⟩
set_option maxRecDepth 100000 in
set_option maxHeartbeats 2000000 in
theorem rf_n_busn (w : World) (base : Nat) (L : LocR) (vp ve : Value) (T : Tabs) (pl : Bool) (ps : List (Int × Int)) (l : List Int) (va x : Int) (n : Nat) (u wr : Bool) (hv : R32 va) (h : RmAt w base L vp ve T pl ps l) (hm : (T.men == 0) = false) (TG : Aside0 (∀ W, RmAt W base L vp ve T pl ps l → Calls Try.prog 58 #[.pointer (some ⟨L.t, 0, none⟩), .int .u32 (va / 512)] W fun e w' => e = .returned (.tuple #[.int .u32 x, .bool false]) ∧ W = w')) (at_ : Int) (EN : Aside0 (∀ W, RmAt W base L vp ve T pl ps l → Calls Try.prog 49 #[.pointer (some ⟨L.m, 0, none⟩), .int .u32 va] W fun e w' => e = .returned (.tuple #[.int .u32 at_, .bool true]) ∧ W = w')) (z er : Int) (her : (er == 0) = true) (RG : Aside0 (∀ W, RmAt W base L vp ve T pl ps l → Calls Try.prog 50 #[.pointer (some ⟨L.r, 0, none⟩), .int .u32 at_, .int .i64 4] W fun e w' => e = .returned (.tuple #[.int .u32 z, .int .i64 er]) ∧ W = w')) (MY : Aside0 (∀ W, Calls Try.prog 60 #[.int .u32 z, .bool u, .bool wr] W fun e w' => e = .returned (.bool true) ∧ W = w')) (BI : Aside0 (∀ W, Calls Try.prog 61 #[.int .u32 z, .int .i64 31] W fun e w' => e = .returned (.bool true) ∧ W = w')) (pa : Int) (PP : Aside0 (∀ W, Calls Try.prog 63 #[.int .u32 z, .int .u32 va] W fun e w' => e = .returned (.int .u32 pa) ∧ W = w')) (TH : Aside0 (∀ W vp' ve' ps', RmAt W base L vp' ve' T pl ps' l → Calls Try.prog 55 #[.pointer (some ⟨L.r, 0, none⟩), .int .u32 pa, .int .i64 n] W fun e w' => e = .returned (.bool false) ∧ W = w')) (j : Int) (F : Aside0 (∀ W, Calls Try.prog 59 #[.int .i64 1, .int .u32 va, .int .u32 0, .bool wr] W fun e w' => e = .returned (.agg #[.int .i64 1, .int .u32 va, .int .u32 j]) ∧ Below W.heap.size W w')) :
    Calls Try.prog 24 #[.pointer (some ⟨L.m, 0, none⟩), .int .u32 va, .int .i64 n, .bool u, .bool wr, .bool false] w fun e w' => e = .returned (.tuple #[.int .u32 0, .agg #[.int .i64 1, .int .u32 va, .int .u32 j]]) ∧ Below w.heap.size w w' := by
  have M := Aside0.mk h
  have BX := box1 w (.cells #[.int .i64 0, .int .u32 0, .int .u32 0] 47 (0, 0))
  obtain ⟨W, hW⟩ : ∃ W, w.alloc (.cells #[.int .i64 0, .int .u32 0, .int .u32 0] 47 (0, 0)) = W := ⟨_, rfl⟩
  rw [hW] at BX
  have MW := Aside0.mk (M.out.then BX.1)
  have Z := Aside0.mk BX.2
  have BB := Aside0.mk BX.1
  have c0 : W.cell? ⟨L.m, 0, none⟩ = some (.pointer (some ⟨L.r, 0, none⟩)) := MW.out.cell 0
  have c1 : W.cell? ⟨L.m, 1, none⟩ = some (.pointer (some ⟨L.t, 0, none⟩)) := MW.out.cell 1
  have c6 : W.cell? ⟨L.m, 6, none⟩ = some (.int .u32 T.men) := MW.out.cell 6
  have c7 : W.cell? ⟨L.m, 7, none⟩ = some (.bool pl) := MW.out.cell 7
  have hv0 := hv.1
  have hv1 := hv.2
  have e0 : Int.tdiv va 512 = va / 512 := Int.tdiv_eq_ediv_of_nonneg hv0
  have e3 : va / 512 % 4294967296 = va / 512 := by omega
  clear h BX hv
  go_enter Try.func24, Try.ntmps24
  go_wp2_with (first
    | (go_at_call 58; (with_reducible refine (TG.out _ MW.out).mono ?_); rintro e w3 ⟨rfl, rfl⟩)
    | (go_at_call 49; (with_reducible refine (EN.out _ MW.out).mono ?_); rintro e w3 ⟨rfl, rfl⟩)
    | (go_at_call 50; (with_reducible refine (RG.out _ MW.out).mono ?_); rintro e w3 ⟨rfl, rfl⟩)
    | (go_at_call 60; (with_reducible refine (MY.out _).mono ?_); rintro e w3 ⟨rfl, rfl⟩)
    | (go_at_call 61; (with_reducible refine (BI.out _).mono ?_); rintro e w3 ⟨rfl, rfl⟩)
    | (go_at_call 63; (with_reducible refine (PP.out _).mono ?_); rintro e w3 ⟨rfl, rfl⟩)
    | (go_at_call 55; (with_reducible refine (TH.out _ _ _ _ MW.out).mono ?_); rintro e w3 ⟨rfl, rfl⟩)
    | (go_at_call 59; (with_reducible refine (F.out _).mono ?_); rintro e w6 ⟨rfl, hb⟩; have Z6 := Aside0.mk (row_then Z.out hb); have B6 := Aside0.mk hb; clear hb)
    | (refine wpList_store_row rfl 47 (.tmp 13) (.tmp 113) rfl w.heap.size #[.int .i64 1, .int .u32 va, .int .u32 j] rfl rfl _ _ Z6.out infoF rfl (by kernel_rfl) ?_))
  refine bodyPost_ret (results_tc rfl _ _ w.heap.size 47 #[.int .i64 1, .int .u32 va, .int .u32 j] (0, 0) _ rfl (setRow_heap _ _ _ _ 47 _ Z6.out) Try.underlying47 rfl infoF) rfl ⟨rfl, below_setRow (below_step BB.out B6.out) (Nat.le_refl _) _⟩
set_option maxRecDepth 100000 in
set_option maxHeartbeats 2000000 in
theorem rf_n_busp (w : World) (base : Nat) (L : LocR) (vp ve : Value) (T : Tabs) (pl : Bool) (ps : List (Int × Int)) (l : List Int) (va x : Int) (n : Nat) (u wr : Bool) (hv : R32 va) (h : RmAt w base L vp ve T pl ps l) (hm : (T.men == 0) = false) (hpl : pl = true) (TG : Aside0 (∀ W, RmAt W base L vp ve T pl ps l → Calls Try.prog 58 #[.pointer (some ⟨L.t, 0, none⟩), .int .u32 (va / 512)] W fun e w' => e = .returned (.tuple #[.int .u32 x, .bool false]) ∧ W = w')) (at_ : Int) (EN : Aside0 (∀ W, RmAt W base L vp ve T pl ps l → Calls Try.prog 49 #[.pointer (some ⟨L.m, 0, none⟩), .int .u32 va] W fun e w' => e = .returned (.tuple #[.int .u32 at_, .bool true]) ∧ W = w')) (z er : Int) (her : (er == 0) = true) (RG : Aside0 (∀ W, RmAt W base L vp ve T pl ps l → Calls Try.prog 50 #[.pointer (some ⟨L.r, 0, none⟩), .int .u32 at_, .int .i64 4] W fun e w' => e = .returned (.tuple #[.int .u32 z, .int .i64 er]) ∧ W = w')) (MY : Aside0 (∀ W, Calls Try.prog 60 #[.int .u32 z, .bool u, .bool wr] W fun e w' => e = .returned (.bool true) ∧ W = w')) (BI : Aside0 (∀ W, Calls Try.prog 61 #[.int .u32 z, .int .i64 31] W fun e w' => e = .returned (.bool true) ∧ W = w')) (pa : Int) (PP : Aside0 (∀ W, Calls Try.prog 63 #[.int .u32 z, .int .u32 va] W fun e w' => e = .returned (.int .u32 pa) ∧ W = w')) (TH : Aside0 (∀ W vp' ve' ps', RmAt W base L vp' ve' T pl ps' l → Calls Try.prog 55 #[.pointer (some ⟨L.r, 0, none⟩), .int .u32 pa, .int .i64 n] W fun e w' => e = .returned (.bool false) ∧ W = w')) (j : Int) (F : Aside0 (∀ W, Calls Try.prog 59 #[.int .i64 1, .int .u32 va, .int .u32 0, .bool wr] W fun e w' => e = .returned (.agg #[.int .i64 1, .int .u32 va, .int .u32 j]) ∧ Below W.heap.size W w')) :
    Calls Try.prog 24 #[.pointer (some ⟨L.m, 0, none⟩), .int .u32 va, .int .i64 n, .bool u, .bool wr, .bool true] w fun e w' => e = .returned (.tuple #[.int .u32 0, .agg #[.int .i64 1, .int .u32 va, .int .u32 j]]) ∧ Below w.heap.size w w' := by
  subst hpl
  have M := Aside0.mk h
  have BX := box1 w (.cells #[.int .i64 0, .int .u32 0, .int .u32 0] 47 (0, 0))
  obtain ⟨W, hW⟩ : ∃ W, w.alloc (.cells #[.int .i64 0, .int .u32 0, .int .u32 0] 47 (0, 0)) = W := ⟨_, rfl⟩
  rw [hW] at BX
  have MW := Aside0.mk (M.out.then BX.1)
  have Z := Aside0.mk BX.2
  have BB := Aside0.mk BX.1
  have c0 : W.cell? ⟨L.m, 0, none⟩ = some (.pointer (some ⟨L.r, 0, none⟩)) := MW.out.cell 0
  have c1 : W.cell? ⟨L.m, 1, none⟩ = some (.pointer (some ⟨L.t, 0, none⟩)) := MW.out.cell 1
  have c6 : W.cell? ⟨L.m, 6, none⟩ = some (.int .u32 T.men) := MW.out.cell 6
  have c7 : W.cell? ⟨L.m, 7, none⟩ = some (.bool true) := MW.out.cell 7
  have hv0 := hv.1
  have hv1 := hv.2
  have e0 : Int.tdiv va 512 = va / 512 := Int.tdiv_eq_ediv_of_nonneg hv0
  have e3 : va / 512 % 4294967296 = va / 512 := by omega
  clear h BX hv
  go_enter Try.func24, Try.ntmps24
  go_wp2_with (first
    | (go_at_call 58; (with_reducible refine (TG.out _ MW.out).mono ?_); rintro e w3 ⟨rfl, rfl⟩)
    | (go_at_call 49; (with_reducible refine (EN.out _ MW.out).mono ?_); rintro e w3 ⟨rfl, rfl⟩)
    | (go_at_call 50; (with_reducible refine (RG.out _ MW.out).mono ?_); rintro e w3 ⟨rfl, rfl⟩)
    | (go_at_call 60; (with_reducible refine (MY.out _).mono ?_); rintro e w3 ⟨rfl, rfl⟩)
    | (go_at_call 61; (with_reducible refine (BI.out _).mono ?_); rintro e w3 ⟨rfl, rfl⟩)
    | (go_at_call 63; (with_reducible refine (PP.out _).mono ?_); rintro e w3 ⟨rfl, rfl⟩)
    | (go_at_call 55; (with_reducible refine (TH.out _ _ _ _ MW.out).mono ?_); rintro e w3 ⟨rfl, rfl⟩)
    | (go_at_call 59; (with_reducible refine (F.out _).mono ?_); rintro e w6 ⟨rfl, hb⟩; have Z6 := Aside0.mk (row_then Z.out hb); have B6 := Aside0.mk hb; clear hb)
    | (refine wpList_store_row rfl 47 (.tmp 13) (.tmp 113) rfl w.heap.size #[.int .i64 1, .int .u32 va, .int .u32 j] rfl rfl _ _ Z6.out infoF rfl (by kernel_rfl) ?_))
  refine bodyPost_ret (results_tc rfl _ _ w.heap.size 47 #[.int .i64 1, .int .u32 va, .int .u32 j] (0, 0) _ rfl (setRow_heap _ _ _ _ 47 _ Z6.out) Try.underlying47 rfl infoF) rfl ⟨rfl, below_setRow (below_step BB.out B6.out) (Nat.le_refl _) _⟩
end Go.Proofs.Ytiogbgjeimdgmaa.RefWalk
