/- SpecBack: Encode, walked, no index. -/
import Derived.Test.YtbgcbnlpjjhmhaaSpecW
namespace Go.Proofs.Ytbgcbnlpjjhmhaa.SpecWalk
open Go.RowKit Go.Proofs.Ytbgcbnlpjjhmhaa.Aid Go.Proofs.Ytbgcbnlpjjhmhaa.Pure Go.Proofs.Ytbgcbnlpjjhmhaa.GSpecSizes Go.Proofs.YtbgcbnlpjjhmhaaW.PrintWords Go.Proofs.YtbgcbnlpjjhmhaaW.PrintLast Go.Proofs.YtbgcbnlpjjhmhaaW.PrintMore
attribute [local go_sem] max2_int min2_int max_two min_two max_three min_three max_four min_four   -- for this text's walks alone
set_option linter.unusedVariables false
set_option linter.unusedSimpArgs false
theorem decq_call (w : World) (A : Option Addr) (c : Nat) (l : List Int) (acc : Int) (n : Nat) (q1 q2 q3 q4 q5 q6 : Int) (hq : decD l acc n = (q1, q2, q3, q4, q5, q6)) (hl : Bys l) (hn : Sz n) (hr : ReadsInt w .u8 A l.length l) (hc : l.length ≤ c) :
    Calls Try.prog 32 #[.slice A l.length c, .agg #[.int .u8 acc, .int .i64 (n : Int)]] w fun e w' => e = .returned (.tuple #[.agg #[.int .i64 q1, .int .i64 q2, .int .i64 q3, .int .u32 q4, .int .i64 q5], .int .i64 q6]) ∧ Below w.heap.size w w' := by
  have := dec_call w A c l.length l acc n rfl hl hn hr hc
  rwa [hq] at this
set_option maxRecDepth 100000 in
set_option maxHeartbeats 4000000 in
theorem encn_no (w : World) (kd reg idx by_ acc : Int) (val n : Nat) (hv : val < 4294967296) (hn : Sz n) (ha : (acc == 98) = false) (l : List Int) (hl5 : l.length ≤ 5) (hbl : Bys l)
    (hF : ∀ w, Calls Try.prog 48 #[.agg #[.int .i64 kd, .int .i64 reg, .int .i64 idx, .int .u32 val, .int .i64 by_], .int .i64 n] w (FPost w l false)) (hi : idx < 0) :
    Calls Try.prog 33 #[.agg #[.int .i64 kd, .int .i64 reg, .int .i64 idx, .int .u32 val, .int .i64 by_], .agg #[.int .u8 acc, .int .i64 n]] w (EPost w none) := by
  obtain ⟨m, hm, M0⟩ := mask_call w n hn
  have M := Aside0.mk M0
  have FC := Aside0.mk hF
  have EX := Aside0.mk (fun w => ext_call w val n hv hn)
  have HL := Aside0.mk hl5
  clear M0 hn hF
  have hi1 : decide (0 ≤ idx) = false := decide_eq_false (by omega)
  have hi2 : ¬ 0 ≤ idx := by omega
  have h16 : decide (15 < idx) = false := decide_eq_false (by omega)
  have h16' : ¬ 15 < idx := by omega
  obtain ⟨W, hW, hsz, bW, eW⟩ := boxes w kd reg idx val by_ acc n
  have BW := Aside0.mk bW
  have EW := Aside0.mk eW
  obtain ⟨c0, c1, c2, c3, c4, o0, o1⟩ := eW.cells
  clear bW eW
  go_enter Try.func33, Try.ntmps33
  go_wp2_with (first
    | (go_at_call 41; (with_reducible refine (M.out _).mono ?_); rintro e w1 ⟨rfl, hb⟩; obtain ⟨d0, d1, d2, d3, d4, p0, p1⟩ := (EW.out.then hb).cells; have E1 := Aside0.mk (EW.out.then hb); have B1 := Aside0.mk (below_step BW.out hb); clear hb)
    | (go_at_call 48; (with_reducible refine (FC.out _).mono ?_); rintro e w4 ⟨A, c, rfl, hb, ho⟩; obtain ⟨f0, f1, f2, f3, f4, g0, g1⟩ := (E1.out.then hb).cells; have E4 := Aside0.mk (E1.out.then hb); have B4 := Aside0.mk (below_step B1.out hb); have O4 := Aside0.mk (own_lower ho B1.out.size); clear hb ho))
  go_ret2
  exact ⟨rfl, B4.out⟩
set_option maxRecDepth 100000 in
set_option maxHeartbeats 4000000 in
theorem encn_neg (w : World) (kd reg idx by_ acc : Int) (val n : Nat) (hv : val < 4294967296) (hn : Sz n) (ha : (acc == 98) = false) (l : List Int) (hl5 : l.length ≤ 5) (hbl : Bys l)
    (hF : ∀ w, Calls Try.prog 48 #[.agg #[.int .i64 kd, .int .i64 reg, .int .i64 idx, .int .u32 val, .int .i64 by_], .int .i64 n] w (FPost w l true)) (hi : idx < 0) (hr : reg < 0) :
    Calls Try.prog 33 #[.agg #[.int .i64 kd, .int .i64 reg, .int .i64 idx, .int .u32 val, .int .i64 by_], .agg #[.int .u8 acc, .int .i64 n]] w (EPost w none) := by
  obtain ⟨m, hm, M0⟩ := mask_call w n hn
  have M := Aside0.mk M0
  have FC := Aside0.mk hF
  have EX := Aside0.mk (fun w => ext_call w val n hv hn)
  have HL := Aside0.mk hl5
  clear M0 hn hF
  have hi1 : decide (0 ≤ idx) = false := decide_eq_false (by omega)
  have hi2 : ¬ 0 ≤ idx := by omega
  have h16 : decide (15 < idx) = false := decide_eq_false (by omega)
  have h16' : ¬ 15 < idx := by omega
  obtain ⟨W, hW, hsz, bW, eW⟩ := boxes w kd reg idx val by_ acc n
  have BW := Aside0.mk bW
  have EW := Aside0.mk eW
  obtain ⟨c0, c1, c2, c3, c4, o0, o1⟩ := eW.cells
  clear bW eW
  go_enter Try.func33, Try.ntmps33
  go_wp2_with (first
    | (go_at_call 41; (with_reducible refine (M.out _).mono ?_); rintro e w1 ⟨rfl, hb⟩; obtain ⟨d0, d1, d2, d3, d4, p0, p1⟩ := (EW.out.then hb).cells; have E1 := Aside0.mk (EW.out.then hb); have B1 := Aside0.mk (below_step BW.out hb); clear hb)
    | (go_at_call 48; (with_reducible refine (FC.out _).mono ?_); rintro e w4 ⟨A, c, rfl, hb, ho⟩; obtain ⟨f0, f1, f2, f3, f4, g0, g1⟩ := (E1.out.then hb).cells; have E4 := Aside0.mk (E1.out.then hb); have B4 := Aside0.mk (below_step B1.out hb); have O4 := Aside0.mk (own_lower ho B1.out.size); clear hb ho))
  go_ret2
  exact ⟨rfl, B4.out⟩
set_option maxRecDepth 100000 in
set_option maxHeartbeats 4000000 in
theorem encn_big (w : World) (kd reg idx by_ acc : Int) (val n : Nat) (hv : val < 4294967296) (hn : Sz n) (ha : (acc == 98) = false) (l : List Int) (hl5 : l.length ≤ 5) (hbl : Bys l)
    (hF : ∀ w, Calls Try.prog 48 #[.agg #[.int .i64 kd, .int .i64 reg, .int .i64 idx, .int .u32 val, .int .i64 by_], .int .i64 n] w (FPost w l true)) (hi : idx < 0) (hr : 0 ≤ reg) (h15 : 15 < reg) :
    Calls Try.prog 33 #[.agg #[.int .i64 kd, .int .i64 reg, .int .i64 idx, .int .u32 val, .int .i64 by_], .agg #[.int .u8 acc, .int .i64 n]] w (EPost w none) := by
  obtain ⟨m, hm, M0⟩ := mask_call w n hn
  have M := Aside0.mk M0
  have FC := Aside0.mk hF
  have EX := Aside0.mk (fun w => ext_call w val n hv hn)
  have HL := Aside0.mk hl5
  clear M0 hn hF
  have hi1 : decide (0 ≤ idx) = false := decide_eq_false (by omega)
  have hi2 : ¬ 0 ≤ idx := by omega
  have h16 : decide (15 < idx) = false := decide_eq_false (by omega)
  have h16' : ¬ 15 < idx := by omega
  have hr1 : decide (reg < 0) = false := decide_eq_false (by omega)
  have hr2 : ¬ reg < 0 := by omega
  obtain ⟨W, hW, hsz, bW, eW⟩ := boxes w kd reg idx val by_ acc n
  have BW := Aside0.mk bW
  have EW := Aside0.mk eW
  obtain ⟨c0, c1, c2, c3, c4, o0, o1⟩ := eW.cells
  clear bW eW
  go_enter Try.func33, Try.ntmps33
  go_wp2_with (first
    | (go_at_call 41; (with_reducible refine (M.out _).mono ?_); rintro e w1 ⟨rfl, hb⟩; obtain ⟨d0, d1, d2, d3, d4, p0, p1⟩ := (EW.out.then hb).cells; have E1 := Aside0.mk (EW.out.then hb); have B1 := Aside0.mk (below_step BW.out hb); clear hb)
    | (go_at_call 48; (with_reducible refine (FC.out _).mono ?_); rintro e w4 ⟨A, c, rfl, hb, ho⟩; obtain ⟨f0, f1, f2, f3, f4, g0, g1⟩ := (E1.out.then hb).cells; have E4 := Aside0.mk (E1.out.then hb); have B4 := Aside0.mk (below_step B1.out hb); have O4 := Aside0.mk (own_lower ho B1.out.size); clear hb ho))
  go_ret2
  exact ⟨rfl, B4.out⟩
set_option maxRecDepth 100000 in
set_option maxHeartbeats 4000000 in
theorem encn_a (w : World) (kd reg idx by_ acc : Int) (val n : Nat) (hv : val < 4294967296) (hn : Sz n) (ha : (acc == 98) = false) (l : List Int) (hl5 : l.length ≤ 5) (hbl : Bys l)
    (hF : ∀ w, Calls Try.prog 48 #[.agg #[.int .i64 kd, .int .i64 reg, .int .i64 idx, .int .u32 val, .int .i64 by_], .int .i64 n] w (FPost w l true)) (hi : idx < 0) (hr : 0 ≤ reg) (h15 : reg ≤ 15) (hbx : Bys l) (q1 q2 q3 q4 q5 q6 : Int) (hq : decD l acc n = (q1, q2, q3, q4, q5, q6)) (h6 : ¬ q6 = 0) :
    Calls Try.prog 33 #[.agg #[.int .i64 kd, .int .i64 reg, .int .i64 idx, .int .u32 val, .int .i64 by_], .agg #[.int .u8 acc, .int .i64 n]] w (EPost w none) := by
  obtain ⟨m, hm, M0⟩ := mask_call w n hn
  have M := Aside0.mk M0
  have FC := Aside0.mk hF
  have EX := Aside0.mk (fun w => ext_call w val n hv hn)
  have HL := Aside0.mk hl5
  have DC := Aside0.mk (fun w A c => decq_call w A c l acc n q1 q2 q3 q4 q5 q6 hq hbx hn)
  clear hq
  clear M0 hn hF
  have hi1 : decide (0 ≤ idx) = false := decide_eq_false (by omega)
  have hi2 : ¬ 0 ≤ idx := by omega
  have h16 : decide (15 < idx) = false := decide_eq_false (by omega)
  have h16' : ¬ 15 < idx := by omega
  have hr1 : decide (reg < 0) = false := decide_eq_false (by omega)
  have hr2 : ¬ reg < 0 := by omega
  have h151 : decide (15 < reg) = false := decide_eq_false (by omega)
  have h152 : ¬ 15 < reg := by omega
  have h61 : (q6 != 0) = true := bne_iff_ne.2 h6
  obtain ⟨W, hW, hsz, bW, eW⟩ := boxes w kd reg idx val by_ acc n
  have BW := Aside0.mk bW
  have EW := Aside0.mk eW
  obtain ⟨c0, c1, c2, c3, c4, o0, o1⟩ := eW.cells
  clear bW eW
  go_enter Try.func33, Try.ntmps33
  go_wp2_with (first
    | (go_at_call 41; (with_reducible refine (M.out _).mono ?_); rintro e w1 ⟨rfl, hb⟩; obtain ⟨d0, d1, d2, d3, d4, p0, p1⟩ := (EW.out.then hb).cells; have E1 := Aside0.mk (EW.out.then hb); have B1 := Aside0.mk (below_step BW.out hb); clear hb)
    | (go_at_call 48; (with_reducible refine (FC.out _).mono ?_); rintro e w4 ⟨A, c, rfl, hb, ho⟩; obtain ⟨f0, f1, f2, f3, f4, g0, g1⟩ := (E1.out.then hb).cells; have E4 := Aside0.mk (E1.out.then hb); have B4 := Aside0.mk (below_step B1.out hb); have O4 := Aside0.mk (own_lower ho B1.out.size); clear hb ho)
    | (go_at_call 32; (with_reducible refine (DC.out _ _ _ (own_reads' O4.out) (own_cap O4.out)).mono ?_); rintro e w3 ⟨rfl, hb⟩; have bl := below_alloc (Below.refl w3.heap.size w3) (.cells #[.int .i64 q1, .int .i64 q2, .int .i64 q3, .int .u32 q4, .int .i64 q5] 66 (0, 0)); have E3 := Aside0.mk ((E4.out.then hb).then bl); have B3 := Aside0.mk (below_step (below_step B4.out hb) bl); have O3 := Aside0.mk (own_then (own_then O4.out hb) bl); have hz := cell_of_row _ _ 0 _ _ _ (heap_alloc_new w3 (.cells #[.int .i64 q1, .int .i64 q2, .int .i64 q3, .int .u32 q4, .int .i64 q5] 66 (0, 0))); obtain ⟨W4, hW4⟩ : ∃ W4, w3.alloc (.cells #[.int .i64 q1, .int .i64 q2, .int .i64 q3, .int .u32 q4, .int .i64 q5] 66 (0, 0)) = W4 := ⟨_, rfl⟩; rw [hW4] at E3 B3 O3 hz; simp only [List.getElem?_toArray, List.getElem?_cons_zero] at hz; obtain ⟨h0, h1, h2, h3, h4, j0, j1⟩ := E3.out.cells; clear bl hb))
  go_quiet (fail)
  go_wp2
  go_ret2
  exact ⟨rfl, pw_below_drewN B3.out _⟩
set_option maxRecDepth 100000 in
set_option maxHeartbeats 4000000 in
theorem encn_b (w : World) (kd reg idx by_ acc : Int) (val n : Nat) (hv : val < 4294967296) (hn : Sz n) (ha : (acc == 98) = false) (l : List Int) (hl5 : l.length ≤ 5) (hbl : Bys l)
    (hF : ∀ w, Calls Try.prog 48 #[.agg #[.int .i64 kd, .int .i64 reg, .int .i64 idx, .int .u32 val, .int .i64 by_], .int .i64 n] w (FPost w l true)) (hi : idx < 0) (hr : 0 ≤ reg) (h15 : reg ≤ 15) (hbx : Bys l) (q1 q2 q3 q4 q5 q6 : Int) (hq : decD l acc n = (q1, q2, q3, q4, q5, q6)) (h6 : q6 = 0) (hk : ¬ q1 = kd) :
    Calls Try.prog 33 #[.agg #[.int .i64 kd, .int .i64 reg, .int .i64 idx, .int .u32 val, .int .i64 by_], .agg #[.int .u8 acc, .int .i64 n]] w (EPost w none) := by
  obtain ⟨m, hm, M0⟩ := mask_call w n hn
  have M := Aside0.mk M0
  have FC := Aside0.mk hF
  have EX := Aside0.mk (fun w => ext_call w val n hv hn)
  have HL := Aside0.mk hl5
  have DC := Aside0.mk (fun w A c => decq_call w A c l acc n q1 q2 q3 q4 q5 q6 hq hbx hn)
  clear hq
  clear M0 hn hF
  have hi1 : decide (0 ≤ idx) = false := decide_eq_false (by omega)
  have hi2 : ¬ 0 ≤ idx := by omega
  have h16 : decide (15 < idx) = false := decide_eq_false (by omega)
  have h16' : ¬ 15 < idx := by omega
  have hr1 : decide (reg < 0) = false := decide_eq_false (by omega)
  have hr2 : ¬ reg < 0 := by omega
  have h151 : decide (15 < reg) = false := decide_eq_false (by omega)
  have h152 : ¬ 15 < reg := by omega
  subst h6
  have hk1 : (q1 != kd) = true := bne_iff_ne.2 hk
  obtain ⟨W, hW, hsz, bW, eW⟩ := boxes w kd reg idx val by_ acc n
  have BW := Aside0.mk bW
  have EW := Aside0.mk eW
  obtain ⟨c0, c1, c2, c3, c4, o0, o1⟩ := eW.cells
  clear bW eW
  go_enter Try.func33, Try.ntmps33
  go_wp2_with (first
    | (go_at_call 41; (with_reducible refine (M.out _).mono ?_); rintro e w1 ⟨rfl, hb⟩; obtain ⟨d0, d1, d2, d3, d4, p0, p1⟩ := (EW.out.then hb).cells; have E1 := Aside0.mk (EW.out.then hb); have B1 := Aside0.mk (below_step BW.out hb); clear hb)
    | (go_at_call 48; (with_reducible refine (FC.out _).mono ?_); rintro e w4 ⟨A, c, rfl, hb, ho⟩; obtain ⟨f0, f1, f2, f3, f4, g0, g1⟩ := (E1.out.then hb).cells; have E4 := Aside0.mk (E1.out.then hb); have B4 := Aside0.mk (below_step B1.out hb); have O4 := Aside0.mk (own_lower ho B1.out.size); clear hb ho)
    | (go_at_call 32; (with_reducible refine (DC.out _ _ _ (own_reads' O4.out) (own_cap O4.out)).mono ?_); rintro e w3 ⟨rfl, hb⟩; have bl := below_alloc (Below.refl w3.heap.size w3) (.cells #[.int .i64 q1, .int .i64 q2, .int .i64 q3, .int .u32 q4, .int .i64 q5] 66 (0, 0)); have E3 := Aside0.mk ((E4.out.then hb).then bl); have B3 := Aside0.mk (below_step (below_step B4.out hb) bl); have O3 := Aside0.mk (own_then (own_then O4.out hb) bl); have hz := cell_of_row _ _ 0 _ _ _ (heap_alloc_new w3 (.cells #[.int .i64 q1, .int .i64 q2, .int .i64 q3, .int .u32 q4, .int .i64 q5] 66 (0, 0))); obtain ⟨W4, hW4⟩ : ∃ W4, w3.alloc (.cells #[.int .i64 q1, .int .i64 q2, .int .i64 q3, .int .u32 q4, .int .i64 q5] 66 (0, 0)) = W4 := ⟨_, rfl⟩; rw [hW4] at E3 B3 O3 hz; simp only [List.getElem?_toArray, List.getElem?_cons_zero] at hz; obtain ⟨h0, h1, h2, h3, h4, j0, j1⟩ := E3.out.cells; clear bl hb))
  go_quiet (fail)
  go_wp2
  go_ret2
  exact ⟨rfl, pw_below_drewN B3.out _⟩
set_option maxRecDepth 100000 in
set_option maxHeartbeats 4000000 in
theorem encn_c (w : World) (kd reg idx by_ acc : Int) (val n : Nat) (hv : val < 4294967296) (hn : Sz n) (ha : (acc == 98) = false) (l : List Int) (hl5 : l.length ≤ 5) (hbl : Bys l)
    (hF : ∀ w, Calls Try.prog 48 #[.agg #[.int .i64 kd, .int .i64 reg, .int .i64 idx, .int .u32 val, .int .i64 by_], .int .i64 n] w (FPost w l true)) (hi : idx < 0) (hr : 0 ≤ reg) (h15 : reg ≤ 15) (hbx : Bys l) (q1 q2 q3 q4 q5 q6 : Int) (hq : decD l acc n = (q1, q2, q3, q4, q5, q6)) (h6 : q6 = 0) (hk : kd = q1) (h12 : ¬ kd = 12) :
    Calls Try.prog 33 #[.agg #[.int .i64 kd, .int .i64 reg, .int .i64 idx, .int .u32 val, .int .i64 by_], .agg #[.int .u8 acc, .int .i64 n]] w (EPost w (some l)) := by
  obtain ⟨m, hm, M0⟩ := mask_call w n hn
  have M := Aside0.mk M0
  have FC := Aside0.mk hF
  have EX := Aside0.mk (fun w => ext_call w val n hv hn)
  have HL := Aside0.mk hl5
  have DC := Aside0.mk (fun w A c => decq_call w A c l acc n q1 q2 q3 q4 q5 q6 hq hbx hn)
  clear hq
  clear M0 hn hF
  have hi1 : decide (0 ≤ idx) = false := decide_eq_false (by omega)
  have hi2 : ¬ 0 ≤ idx := by omega
  have h16 : decide (15 < idx) = false := decide_eq_false (by omega)
  have h16' : ¬ 15 < idx := by omega
  have hr1 : decide (reg < 0) = false := decide_eq_false (by omega)
  have hr2 : ¬ reg < 0 := by omega
  have h151 : decide (15 < reg) = false := decide_eq_false (by omega)
  have h152 : ¬ 15 < reg := by omega
  subst h6 hk
  have hk1 : (kd == 12) = false := beq_eq_false_iff_ne.2 h12
  obtain ⟨W, hW, hsz, bW, eW⟩ := boxes w kd reg idx val by_ acc n
  have BW := Aside0.mk bW
  have EW := Aside0.mk eW
  obtain ⟨c0, c1, c2, c3, c4, o0, o1⟩ := eW.cells
  clear bW eW
  go_enter Try.func33, Try.ntmps33
  go_wp2_with (first
    | (go_at_call 41; (with_reducible refine (M.out _).mono ?_); rintro e w1 ⟨rfl, hb⟩; obtain ⟨d0, d1, d2, d3, d4, p0, p1⟩ := (EW.out.then hb).cells; have E1 := Aside0.mk (EW.out.then hb); have B1 := Aside0.mk (below_step BW.out hb); clear hb)
    | (go_at_call 48; (with_reducible refine (FC.out _).mono ?_); rintro e w4 ⟨A, c, rfl, hb, ho⟩; obtain ⟨f0, f1, f2, f3, f4, g0, g1⟩ := (E1.out.then hb).cells; have E4 := Aside0.mk (E1.out.then hb); have B4 := Aside0.mk (below_step B1.out hb); have O4 := Aside0.mk (own_lower ho B1.out.size); clear hb ho)
    | (go_at_call 32; (with_reducible refine (DC.out _ _ _ (own_reads' O4.out) (own_cap O4.out)).mono ?_); rintro e w3 ⟨rfl, hb⟩; have bl := below_alloc (Below.refl w3.heap.size w3) (.cells #[.int .i64 kd, .int .i64 q2, .int .i64 q3, .int .u32 q4, .int .i64 q5] 66 (0, 0)); have E3 := Aside0.mk ((E4.out.then hb).then bl); have B3 := Aside0.mk (below_step (below_step B4.out hb) bl); have O3 := Aside0.mk (own_then (own_then O4.out hb) bl); have hz := cell_of_row _ _ 0 _ _ _ (heap_alloc_new w3 (.cells #[.int .i64 kd, .int .i64 q2, .int .i64 q3, .int .u32 q4, .int .i64 q5] 66 (0, 0))); obtain ⟨W4, hW4⟩ : ∃ W4, w3.alloc (.cells #[.int .i64 kd, .int .i64 q2, .int .i64 q3, .int .u32 q4, .int .i64 q5] 66 (0, 0)) = W4 := ⟨_, rfl⟩; rw [hW4] at E3 B3 O3 hz; simp only [List.getElem?_toArray, List.getElem?_cons_zero] at hz; obtain ⟨h0, h1, h2, h3, h4, j0, j1⟩ := E3.out.cells; clear bl hb))
  go_quiet (fail)
  go_wp2
  go_ret2
  exact ⟨A, c, rfl, pw_below_drewN B3.out _, O3.out⟩
set_option maxRecDepth 100000 in
set_option maxHeartbeats 4000000 in
theorem encn_d (w : World) (reg idx by_ acc : Int) (val n : Nat) (hv : val < 4294967296) (hn : Sz n) (ha : (acc == 98) = false) (l : List Int) (hl5 : l.length ≤ 5) (hbl : Bys l)
    (hF : ∀ w, Calls Try.prog 48 #[.agg #[.int .i64 12, .int .i64 reg, .int .i64 idx, .int .u32 val, .int .i64 by_], .int .i64 n] w (FPost w l true)) (hi : idx < 0) (hr : 0 ≤ reg) (h15 : reg ≤ 15) (hbx : Bys l) (q1 q2 q3 q4 q5 q6 : Int) (hq : decD l acc n = (q1, q2, q3, q4, q5, q6)) (h6 : q6 = 0) (hk : q1 = 12) (hne : ¬ ((extD val n : Nat) : Int) = (val : Int)) :
    Calls Try.prog 33 #[.agg #[.int .i64 12, .int .i64 reg, .int .i64 idx, .int .u32 val, .int .i64 by_], .agg #[.int .u8 acc, .int .i64 n]] w (EPost w none) := by
  obtain ⟨m, hm, M0⟩ := mask_call w n hn
  have M := Aside0.mk M0
  have FC := Aside0.mk hF
  have EX := Aside0.mk (fun w => ext_call w val n hv hn)
  have HL := Aside0.mk hl5
  have DC := Aside0.mk (fun w A c => decq_call w A c l acc n q1 q2 q3 q4 q5 q6 hq hbx hn)
  clear hq
  clear M0 hn hF
  have hi1 : decide (0 ≤ idx) = false := decide_eq_false (by omega)
  have hi2 : ¬ 0 ≤ idx := by omega
  have h16 : decide (15 < idx) = false := decide_eq_false (by omega)
  have h16' : ¬ 15 < idx := by omega
  have hr1 : decide (reg < 0) = false := decide_eq_false (by omega)
  have hr2 : ¬ reg < 0 := by omega
  have h151 : decide (15 < reg) = false := decide_eq_false (by omega)
  have h152 : ¬ 15 < reg := by omega
  subst h6 hk
  obtain ⟨y, hy⟩ : ∃ y : Nat, extD val n = y := ⟨_, rfl⟩
  rw [hy] at EX hne
  have hx_ : ((y : Int) != (val : Int)) = true := bne_iff_ne.2 hne
  obtain ⟨W, hW, hsz, bW, eW⟩ := boxes w 12 reg idx val by_ acc n
  have BW := Aside0.mk bW
  have EW := Aside0.mk eW
  obtain ⟨c0, c1, c2, c3, c4, o0, o1⟩ := eW.cells
  clear bW eW
  go_enter Try.func33, Try.ntmps33
  go_wp2_with (first
    | (go_at_call 41; (with_reducible refine (M.out _).mono ?_); rintro e w1 ⟨rfl, hb⟩; obtain ⟨d0, d1, d2, d3, d4, p0, p1⟩ := (EW.out.then hb).cells; have E1 := Aside0.mk (EW.out.then hb); have B1 := Aside0.mk (below_step BW.out hb); clear hb)
    | (go_at_call 48; (with_reducible refine (FC.out _).mono ?_); rintro e w4 ⟨A, c, rfl, hb, ho⟩; obtain ⟨f0, f1, f2, f3, f4, g0, g1⟩ := (E1.out.then hb).cells; have E4 := Aside0.mk (E1.out.then hb); have B4 := Aside0.mk (below_step B1.out hb); have O4 := Aside0.mk (own_lower ho B1.out.size); clear hb ho)
    | (go_at_call 32; (with_reducible refine (DC.out _ _ _ (own_reads' O4.out) (own_cap O4.out)).mono ?_); rintro e w3 ⟨rfl, hb⟩; have bl := below_alloc (Below.refl w3.heap.size w3) (.cells #[.int .i64 12, .int .i64 q2, .int .i64 q3, .int .u32 q4, .int .i64 q5] 66 (0, 0)); have E3 := Aside0.mk ((E4.out.then hb).then bl); have B3 := Aside0.mk (below_step (below_step B4.out hb) bl); have O3 := Aside0.mk (own_then (own_then O4.out hb) bl); have hz := cell_of_row _ _ 0 _ _ _ (heap_alloc_new w3 (.cells #[.int .i64 12, .int .i64 q2, .int .i64 q3, .int .u32 q4, .int .i64 q5] 66 (0, 0))); obtain ⟨W4, hW4⟩ : ∃ W4, w3.alloc (.cells #[.int .i64 12, .int .i64 q2, .int .i64 q3, .int .u32 q4, .int .i64 q5] 66 (0, 0)) = W4 := ⟨_, rfl⟩; rw [hW4] at E3 B3 O3 hz; simp only [List.getElem?_toArray, List.getElem?_cons_zero] at hz; obtain ⟨h0, h1, h2, h3, h4, j0, j1⟩ := E3.out.cells; clear bl hb))
  go_quiet ((go_at_call 46; exact Calls.quiet_of (EX.out _)))
  go_wp2
  go_ret2
  exact ⟨rfl, pw_below_drewN B3.out _⟩
set_option maxRecDepth 100000 in
set_option maxHeartbeats 4000000 in
theorem encn_e (w : World) (reg idx by_ acc : Int) (val n : Nat) (hv : val < 4294967296) (hn : Sz n) (ha : (acc == 98) = false) (l : List Int) (hl5 : l.length ≤ 5) (hbl : Bys l)
    (hF : ∀ w, Calls Try.prog 48 #[.agg #[.int .i64 12, .int .i64 reg, .int .i64 idx, .int .u32 val, .int .i64 by_], .int .i64 n] w (FPost w l true)) (hi : idx < 0) (hr : 0 ≤ reg) (h15 : reg ≤ 15) (hbx : Bys l) (q1 q2 q3 q4 q5 q6 : Int) (hq : decD l acc n = (q1, q2, q3, q4, q5, q6)) (h6 : q6 = 0) (hk : q1 = 12) (hne : ((extD val n : Nat) : Int) = (val : Int)) :
    Calls Try.prog 33 #[.agg #[.int .i64 12, .int .i64 reg, .int .i64 idx, .int .u32 val, .int .i64 by_], .agg #[.int .u8 acc, .int .i64 n]] w (EPost w (some l)) := by
  obtain ⟨m, hm, M0⟩ := mask_call w n hn
  have M := Aside0.mk M0
  have FC := Aside0.mk hF
  have EX := Aside0.mk (fun w => ext_call w val n hv hn)
  have HL := Aside0.mk hl5
  have DC := Aside0.mk (fun w A c => decq_call w A c l acc n q1 q2 q3 q4 q5 q6 hq hbx hn)
  clear hq
  clear M0 hn hF
  have hi1 : decide (0 ≤ idx) = false := decide_eq_false (by omega)
  have hi2 : ¬ 0 ≤ idx := by omega
  have h16 : decide (15 < idx) = false := decide_eq_false (by omega)
  have h16' : ¬ 15 < idx := by omega
  have hr1 : decide (reg < 0) = false := decide_eq_false (by omega)
  have hr2 : ¬ reg < 0 := by omega
  have h151 : decide (15 < reg) = false := decide_eq_false (by omega)
  have h152 : ¬ 15 < reg := by omega
  subst h6 hk
  rw [hne] at EX
  obtain ⟨W, hW, hsz, bW, eW⟩ := boxes w 12 reg idx val by_ acc n
  have BW := Aside0.mk bW
  have EW := Aside0.mk eW
  obtain ⟨c0, c1, c2, c3, c4, o0, o1⟩ := eW.cells
  clear bW eW
  go_enter Try.func33, Try.ntmps33
  go_wp2_with (first
    | (go_at_call 41; (with_reducible refine (M.out _).mono ?_); rintro e w1 ⟨rfl, hb⟩; obtain ⟨d0, d1, d2, d3, d4, p0, p1⟩ := (EW.out.then hb).cells; have E1 := Aside0.mk (EW.out.then hb); have B1 := Aside0.mk (below_step BW.out hb); clear hb)
    | (go_at_call 48; (with_reducible refine (FC.out _).mono ?_); rintro e w4 ⟨A, c, rfl, hb, ho⟩; obtain ⟨f0, f1, f2, f3, f4, g0, g1⟩ := (E1.out.then hb).cells; have E4 := Aside0.mk (E1.out.then hb); have B4 := Aside0.mk (below_step B1.out hb); have O4 := Aside0.mk (own_lower ho B1.out.size); clear hb ho)
    | (go_at_call 32; (with_reducible refine (DC.out _ _ _ (own_reads' O4.out) (own_cap O4.out)).mono ?_); rintro e w3 ⟨rfl, hb⟩; have bl := below_alloc (Below.refl w3.heap.size w3) (.cells #[.int .i64 12, .int .i64 q2, .int .i64 q3, .int .u32 q4, .int .i64 q5] 66 (0, 0)); have E3 := Aside0.mk ((E4.out.then hb).then bl); have B3 := Aside0.mk (below_step (below_step B4.out hb) bl); have O3 := Aside0.mk (own_then (own_then O4.out hb) bl); have hz := cell_of_row _ _ 0 _ _ _ (heap_alloc_new w3 (.cells #[.int .i64 12, .int .i64 q2, .int .i64 q3, .int .u32 q4, .int .i64 q5] 66 (0, 0))); obtain ⟨W4, hW4⟩ : ∃ W4, w3.alloc (.cells #[.int .i64 12, .int .i64 q2, .int .i64 q3, .int .u32 q4, .int .i64 q5] 66 (0, 0)) = W4 := ⟨_, rfl⟩; rw [hW4] at E3 B3 O3 hz; simp only [List.getElem?_toArray, List.getElem?_cons_zero] at hz; obtain ⟨h0, h1, h2, h3, h4, j0, j1⟩ := E3.out.cells; clear bl hb))
  go_quiet ((go_at_call 46; exact Calls.quiet_of (EX.out _)))
  go_wp2
  go_ret2
  exact ⟨A, c, rfl, pw_below_drewN B3.out _, O3.out⟩
end Go.Proofs.Ytbgcbnlpjjhmhaa.SpecWalk
