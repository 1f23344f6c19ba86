/- Two buffers to which the same is done have the same; what is done to a third one plays no part: the walk of TlbApart. -/
import Derived.Test.YtocjadgakalbdaaTlbG
import Derived.Test.YtocjadgakalbdaaRows3
namespace Go.Proofs.Ytocjadgakalbdaa.TlbWalk
open Go.RowKit Go.Proofs.Ytocjadgakalbdaa.Aid Go.Proofs.YtocjadgakalbdaaW.PrintWords Go.Proofs.YtocjadgakalbdaaW.PrintLast Go.Proofs.YtocjadgakalbdaaW.PrintMore
attribute [local go_sem] max2_int min2_int max_two min_two max_three min_three max_four min_four   -- for this text's walks alone
set_option linter.unusedVariables false
set_option linter.unusedSimpArgs false

theorem row3_at {w : World} {F0 F1 F2 : Value → Prop} {a : Option Addr} {len cap : Nat} (h : IsRow3 F0 F1 F2 w a len cap) (hp : 0 < len) : ∃ b off, a = some ⟨b, off, none⟩ ∧ b < w.heap.size ∧
    ∀ i, i < len → ∃ v0 v1 v2, F0 v0 ∧ F1 v1 ∧ F2 v2 ∧ w.cell? ⟨b, off + i * 3, none⟩ = some v0 ∧ w.cell? ⟨b, off + i * 3 + 1, none⟩ = some v1 ∧ w.cell? ⟨b, off + i * 3 + 2, none⟩ = some v2 := by
  obtain ⟨x, rfl, hx⟩ := h.2 hp
  obtain ⟨b, off, spot⟩ := x
  obtain ⟨u0, u1, u2, _, _, _, c0, _, _⟩ := hx 0 hp
  have hspot : spot = none := by simpa [Addr.add] using World.cell?_spot c0
  subst hspot
  have hb : b < w.heap.size := by
    have := World.block_lt_of_cell? w _ c0
    simpa [Addr.add] using this
  have ap : ∀ (o i : Nat), ((⟨b, o, none⟩ : Addr).add i) = ⟨b, o + i, none⟩ := by
    intro o i
    unfold Addr.add
    by_cases hi : i = 0 <;> simp [hi]
  refine ⟨b, off, rfl, hb, fun i hi => ?_⟩
  obtain ⟨v0, v1, v2, f0, f1, f2, d0, d1, d2⟩ := hx i hi
  rw [ap] at d0 d1 d2
  exact ⟨v0, v1, v2, f0, f1, f2, d0, d1, d2⟩

theorem same_m (w : World) (A0 A1 : Option Addr) (n c0 c1 : Nat) (l : List Int) (hl : n ≤ 8) (h0 : ReadsInt w .u32 A0 n l) (h1 : ReadsInt w .u32 A1 n l) :
    Calls Try.prog 24 #[.slice A0 n c0, .slice A1 n c1] w fun e w' => e = .returned (.bool true) ∧ ∃ m, w' = w.drewN m := by
  have := h0.1
  subst this
  exact same_call w A0 A1 c0 c1 l hl h0 h1
theorem apart_long (A0 A1 : Option Addr) (n m c0 c1 : Nat) (w : World) (h : 60 < n ∨ 60 < m) :
    Calls Try.prog 10 #[.slice A0 n c0, .slice A1 m c1] w fun e w' => e = .returned (.bool true) ∧ Below w.heap.size w w' := by
  by_cases h1 : 60 < n
  · go_enter Try.func10, Try.ntmps10
    go_wp2_with (first
      | (go_at_call 12; (with_reducible refine (alive_call _).mono ?_); rintro e w0 ⟨rfl, hb0⟩; have B0 := Aside0.mk hb0; clear hb0))
    go_ret
    exact ⟨rfl, B0.out⟩
  · have h2 : 60 < m := by omega
    clear h
    go_enter Try.func10, Try.ntmps10
    go_wp2_with (first
      | (go_at_call 12; (with_reducible refine (alive_call _).mono ?_); rintro e w0 ⟨rfl, hb0⟩; have B0 := Aside0.mk hb0; clear hb0))
    go_ret
    exact ⟨rfl, B0.out⟩

set_option maxRecDepth 100000 in
set_option maxHeartbeats 4000000 in
theorem apart_ok (A0 A1 : Option Addr) (n m c0 c1 : Nat) (w : World) (hn : n ≤ 60) (hm : m ≤ 60) (r0 : IsRow3 (IntV .i64) (IntV .u32) (IntV .u32) w A0 n c0) (r1 : IsRow3 (IntV .i64) (IntV .u32) (IntV .u32) w A1 m c1) :
    Calls Try.prog 10 #[.slice A0 n c0, .slice A1 m c1] w fun e w' => e = .returned (.bool true) ∧ Below w.heap.size w w' := by
  have R0 := Aside0.mk r0
  have R1 := Aside0.mk r1
  clear r0 r1
  go_enter Try.func10, Try.ntmps10
  go_wp2_with (first
    | (go_at_call 12; (with_reducible refine (alive_call w).mono ?_); rintro e w0 ⟨rfl, hb0⟩; have B0 := Aside0.mk hb0; clear hb0)
    | (go_at_call 13; (with_reducible refine (tnew_call w0).mono ?_); rintro e w1 ⟨g, rfl, hr, hb⟩; have T1 := Aside0.mk (hr.lower B0.out.size); have B1 := Aside0.mk (below_step B0.out hb); clear hr hb)
    | (go_at_call 13; (with_reducible refine (tnew_call w1).mono ?_); rintro e w2 ⟨gu, rfl, hr, hb⟩; have U2 := Aside0.mk (hr.lower B1.out.size); have T2 := Aside0.mk (T1.out.then hb); have B2 := Aside0.mk (below_step B1.out hb); have N1 := Aside0.mk (show g ≠ gu from fun e => by have := T1.out.lt; have := hr.2.1; omega); clear hr hb)
    | (go_at_call 13; (with_reducible refine (tnew_call w2).mono ?_); rintro e w3 ⟨gv, rfl, hr, hb⟩; have V3 := Aside0.mk (hr.lower B2.out.size); have T3 := Aside0.mk (T2.out.then hb); have U3 := Aside0.mk (U2.out.then hb); have B3 := Aside0.mk (below_step B2.out hb); have N2 := Aside0.mk (show g ≠ gv from fun e => by have := T2.out.lt; have := hr.2.1; omega); have N3 := Aside0.mk (show gu ≠ gv from fun e => by have := U2.out.lt; have := hr.2.1; omega); clear hr hb))
  have LL := Aside0.mk (show Trio w w3 g gu gv [] [] [] from ⟨B3.out, N1.out, N2.out, N3.out, _, _, _, T3.out, U3.out, V3.out, ne_nil _, ne_nil _, ne_nil _⟩)
  clear T1 T2 T3 U2 U3 V3 N1 N2 N3 B0 B1 B2 B3
  go_loopw [31] (fun i wr => ∃ (k : Nat) (ps rs : List (Int × Int)), k ≤ n ∧ i = .int .i64 k ∧ Aside0 (Trio w wr g gu gv ps ps rs)) (fun i _ => n - (intOf i).toNat)
  case atStart => exact ⟨0, [], [], Nat.zero_le _, rfl, LL⟩
  case round =>
    obtain ⟨k, ps, rs, hk, rfl, LI⟩ := hrel
    clear LL
    by_cases hkn : k = n
    · subst hkn
      have hl8 := trio_len LI.out
      go_wp2_with (first
        | (go_at_call 21; (with_reducible refine (trio_pages w wr g gu gv ps ps rs LI.out).mono ?_); rintro e w2 ⟨A3, c3, rfl, ho, hr, hb⟩; have P2 := Aside0.mk hr; have O2 := Aside0.mk (own_less ho LI.out.1.size); clear ho hr hb))
      clear LI
      go_loopw [85] (fun i wr => ∃ k : Nat, k ≤ ps.length ∧ i = .int .i64 k ∧ Aside0 (Trio w wr g gu gv ps ps rs) ∧ Aside0 (wr.ownsRow w.heap.size 22 1 (.slice A3 ps.length c3) ps.length (nums .u32 (ps.map Prod.fst)))) (fun i _ => ps.length - (intOf i).toNat)
      case atStart => exact ⟨0, Nat.zero_le _, rfl, P2, O2⟩
      case round =>
        obtain ⟨k, hk, rfl, PI, OI⟩ := hrel
        clear P2 O2
        by_cases hkn : k = ps.length
        · subst hkn
          go_wp2_with (first
            | (go_at_call 21; (with_reducible refine (trio_pages w wr g gu gv ps ps rs PI.out).mono ?_); rintro e w4 ⟨A4, c4, rfl, ho, hr, hb⟩; have P4 := Aside0.mk hr; have O4 := Aside0.mk ho; clear ho hr hb)
            | (go_at_call 21; (with_reducible refine (trio_pages w w4 gu g gv ps ps rs P4.out.swap).mono ?_); rintro e w5 ⟨A5, c5, rfl, ho, hr, hb⟩; have P5 := Aside0.mk hr; have O5 := Aside0.mk ho; have O45 := Aside0.mk (own_then O4.out hb); clear ho hr hb)
            | (go_at_call 24; (with_reducible refine (same_m _ _ _ _ _ _ (ps.map Prod.fst) hl8 (own_reads' O45.out) (own_reads' O5.out)).mono ?_); rintro e w6 ⟨rfl, m6, rfl⟩))
          go_ret
          exact ⟨rfl, pw_below_drewN P5.out.1 _⟩
        · have hk' : k < ps.length := by omega
          obtain ⟨ad, rfl, hc⟩ := (own_reads' OI.out).2.2 (by omega)
          have cp := hc k hk'
          clear hc
          generalize hp : (ps.map Prod.fst).getD k 0 = p at *
          have hin : decide (posP p ps < ps.length) = true := by
            refine decide_eq_true (posP_mem p ps ⟨ps[k], List.getElem_mem hk', ?_⟩)
            rw [← hp, List.getD_eq_getElem?_getD, List.getElem?_map, List.getElem?_eq_getElem hk']
            rfl
          have HIN := Aside0.mk hin
          clear hp hin
          generalize hen : entP p ps = en
          have HEN := Aside0.mk hen
          clear hen
          go_wp2_with (first
            | (go_at_call 15; (with_reducible refine (trio_get w wr g gu gv ps ps rs p PI.out).mono ?_); rintro e w4 ⟨rfl, hr, hb⟩; rw [HIN.out, HEN.out]; have P4 := Aside0.mk hr; have O4 := Aside0.mk (own_then OI.out hb); clear hr hb)
            | (go_at_call 15; (with_reducible refine (trio_get w w4 gu g gv ps ps rs p P4.out.swap).mono ?_); rintro e w5 ⟨rfl, hr, hb⟩; rw [HIN.out, HEN.out]; have P5 := Aside0.mk hr.swap; have O5 := Aside0.mk (own_then O4.out hb); clear hr hb))
          go_roundw
          case rel => exact ⟨k + 1, by omega, rfl, P5, O5⟩
          case measure => simp [intOf]; omega
    · have hk' : k < n := by omega
      obtain ⟨b, off, rfl, hb, hc⟩ := row3_at R0.out (by omega)
      obtain ⟨_, _, _, ⟨kd, rfl, _⟩, ⟨page, rfl, _⟩, ⟨entry, rfl, _⟩, q0, q1, q2⟩ := hc k hk'
      clear hc
      have d0 := (LI.out.1.cell (p := ⟨b, off + k * 3, none⟩) hb).trans q0
      have d1 := (LI.out.1.cell (p := ⟨b, off + k * 3 + 1, none⟩) hb).trans q1
      have d2 := (LI.out.1.cell (p := ⟨b, off + k * 3 + 2, none⟩) hb).trans q2
      clear q0 q1 q2
      by_cases hkm : k < m
      · have hkmi : (k : Int) < (m : Int) := by omega
        obtain ⟨b1, off1, rfl, hb1, hc1⟩ := row3_at R1.out (by omega)
        obtain ⟨_, _, _, ⟨kd1, rfl, _⟩, ⟨p1, rfl, _⟩, ⟨e1, rfl, _⟩, z0, z1, z2⟩ := hc1 k hkm
        clear hc1
        have hcells : Aside0 (∀ W, Below w.heap.size w W → W.cell? ⟨b1, off1 + k * 3 + 1, none⟩ = some (.int .u32 p1) ∧ W.cell? ⟨b1, off1 + k * 3 + 2, none⟩ = some (.int .u32 e1)) := ⟨fun W hW => ⟨(hW.cell (p := ⟨b1, off1 + k * 3 + 1, none⟩) hb1).trans z1, (hW.cell (p := ⟨b1, off1 + k * 3 + 2, none⟩) hb1).trans z2⟩⟩
        clear z0 z1 z2
        go_wp2_with (first
          | (go_at_call 14; (with_reducible refine (trio_put w _ g gu gv ps ps rs page entry (LI.out.then (below_alloc (Below.refl _ _) _))).mono ?_); rintro e w1 ⟨rfl, hr, hkp⟩; have P1 := Aside0.mk hr; have X1 := Aside0.mk (hkp _ _ _ _ (blk_new wr (.cells #[.int .i64 kd, .int .u32 page, .int .u32 entry] 56)) (by decide) (by decide)); have x10 := cell_of_row w1 _ 0 _ _ _ X1.out; have x11 := cell_of_row w1 _ 1 _ _ _ X1.out; have x12 := cell_of_row w1 _ 2 _ _ _ X1.out; clear hr hkp))
        have hbel1 : Below w.heap.size w w1 := P1.out.1
        have hS := hcells.out w1 hbel1
        go_region_held3 (fun W => W.cell? ⟨b1, off1 + k * 3 + 1, none⟩ = some (.int .u32 p1) ∧ W.cell? ⟨b1, off1 + k * 3 + 2, none⟩ = some (.int .u32 e1))
          (first | exact hcells.out _ (by assumption) | exact hcells.out _ (hbel1.drew))
          (first
          | (go_at_call 14; (with_reducible refine (trio_put w _ gv gu g _ _ _ p1 e1 (P1.out.last.then ((Below.refl _ _).drew))).mono ?_); rintro e w2 ⟨rfl, hr, hkp⟩; have hbel2 : Below w.heap.size w w2 := hr.1; have P2 := Aside0.mk hr.last; have X2 := Aside0.mk (hkp _ _ _ _ X1.out (by decide) (by decide)); have x20 := cell_of_row w2 _ 0 _ _ _ X2.out; have x21 := cell_of_row w2 _ 1 _ _ _ X2.out; have x22 := cell_of_row w2 _ 2 _ _ _ X2.out; clear hr hkp))
        by_cases hkd : kd = 2
        · have hkb : (kd == 2) = true := beq_iff_eq.mpr hkd
          clear hkd
          go_wp2_with (first
          | (go_at_call 25; (with_reducible refine (trio_drop w _ gv gu g _ _ _ page P2.out.last).mono ?_); rintro e w7 ⟨rfl, hr, hkp⟩; have P7 := Aside0.mk hr.last; have X7 := Aside0.mk (hkp _ _ _ _ X2.out (by decide) (by decide)); have x70 := cell_of_row w7 _ 0 _ _ _ X7.out; have x71 := cell_of_row w7 _ 1 _ _ _ X7.out; have x72 := cell_of_row w7 _ 2 _ _ _ X7.out; clear hr hkp)
          | (go_at_call 14; (with_reducible refine (trio_put w w7 gu g gv _ _ _ page entry P7.out.swap).mono ?_); rintro e w3 ⟨rfl, hr, hkp⟩; have P3 := Aside0.mk hr.swap; have X3 := Aside0.mk (hkp _ _ _ _ X7.out (by decide) (by decide)); have x30 := cell_of_row w3 _ 0 _ _ _ X3.out; have x31 := cell_of_row w3 _ 1 _ _ _ X3.out; have x32 := cell_of_row w3 _ 2 _ _ _ X3.out; clear hr hkp)
          | (go_at_call 25; (with_reducible refine (trio_drop w w3 g gu gv _ _ _ page P3.out).mono ?_); rintro e w4 ⟨rfl, hr, hkp⟩; have P4 := Aside0.mk hr; have X4 := Aside0.mk (hkp _ _ _ _ X3.out (by decide) (by decide)); have x40 := cell_of_row w4 _ 0 _ _ _ X4.out; have x41 := cell_of_row w4 _ 1 _ _ _ X4.out; have x42 := cell_of_row w4 _ 2 _ _ _ X4.out; clear hr hkp)
          | (go_at_call 29; (with_reducible refine (trio_clear w w4 gv gu g _ _ _ P4.out.last).mono ?_); rintro e w5 ⟨rfl, hr, hkp⟩; have P5 := Aside0.mk hr.last; have X5 := Aside0.mk (hkp _ _ _ _ X4.out (by decide) (by decide)); have x50 := cell_of_row w5 _ 0 _ _ _ X5.out; have x51 := cell_of_row w5 _ 1 _ _ _ X5.out; have x52 := cell_of_row w5 _ 2 _ _ _ X5.out; clear hr hkp)
          | (go_at_call 25; (with_reducible refine (trio_drop w w5 gu g gv _ _ _ page P5.out.swap).mono ?_); rintro e w6 ⟨rfl, hr, hkp⟩; have P6 := Aside0.mk hr.swap; have X6 := Aside0.mk (hkp _ _ _ _ X5.out (by decide) (by decide)); have x60 := cell_of_row w6 _ 0 _ _ _ X6.out; have x61 := cell_of_row w6 _ 1 _ _ _ X6.out; have x62 := cell_of_row w6 _ 2 _ _ _ X6.out; clear hr hkp))
          go_roundw
          case rel => exact ⟨k + 1, _, _, by omega, rfl, P6⟩
          case measure => simp [intOf]; omega
        · have hkb : (kd == 2) = false := beq_eq_false_iff_ne.mpr hkd
          go_wp2_with (first
          | (go_at_call 25; (with_reducible refine (trio_drop w _ gv gu g _ _ _ page P2.out.last).mono ?_); rintro e w7 ⟨rfl, hr, hkp⟩; have P7 := Aside0.mk hr.last; have X7 := Aside0.mk (hkp _ _ _ _ X2.out (by decide) (by decide)); have x70 := cell_of_row w7 _ 0 _ _ _ X7.out; have x71 := cell_of_row w7 _ 1 _ _ _ X7.out; have x72 := cell_of_row w7 _ 2 _ _ _ X7.out; clear hr hkp)
          | (go_at_call 14; (with_reducible refine (trio_put w w7 gu g gv _ _ _ page entry P7.out.swap).mono ?_); rintro e w3 ⟨rfl, hr, hkp⟩; have P3 := Aside0.mk hr.swap; have X3 := Aside0.mk (hkp _ _ _ _ X7.out (by decide) (by decide)); have x30 := cell_of_row w3 _ 0 _ _ _ X3.out; have x31 := cell_of_row w3 _ 1 _ _ _ X3.out; have x32 := cell_of_row w3 _ 2 _ _ _ X3.out; clear hr hkp)
          | (go_at_call 25; (with_reducible refine (trio_drop w w3 g gu gv _ _ _ page P3.out).mono ?_); rintro e w4 ⟨rfl, hr, hkp⟩; have P4 := Aside0.mk hr; have X4 := Aside0.mk (hkp _ _ _ _ X3.out (by decide) (by decide)); have x40 := cell_of_row w4 _ 0 _ _ _ X4.out; have x41 := cell_of_row w4 _ 1 _ _ _ X4.out; have x42 := cell_of_row w4 _ 2 _ _ _ X4.out; clear hr hkp)
          | (go_at_call 29; (with_reducible refine (trio_clear w w4 gv gu g _ _ _ P4.out.last).mono ?_); rintro e w5 ⟨rfl, hr, hkp⟩; have P5 := Aside0.mk hr.last; have X5 := Aside0.mk (hkp _ _ _ _ X4.out (by decide) (by decide)); have x50 := cell_of_row w5 _ 0 _ _ _ X5.out; have x51 := cell_of_row w5 _ 1 _ _ _ X5.out; have x52 := cell_of_row w5 _ 2 _ _ _ X5.out; clear hr hkp)
          | (go_at_call 25; (with_reducible refine (trio_drop w w5 gu g gv _ _ _ page P5.out.swap).mono ?_); rintro e w6 ⟨rfl, hr, hkp⟩; have P6 := Aside0.mk hr.swap; have X6 := Aside0.mk (hkp _ _ _ _ X5.out (by decide) (by decide)); have x60 := cell_of_row w6 _ 0 _ _ _ X6.out; have x61 := cell_of_row w6 _ 1 _ _ _ X6.out; have x62 := cell_of_row w6 _ 2 _ _ _ X6.out; clear hr hkp))
          go_roundw
          case rel => exact ⟨k + 1, _, _, by omega, rfl, P3⟩
          case measure => simp [intOf]; omega
      · have hkmi : ¬ (k : Int) < (m : Int) := by omega
        by_cases hkd : kd = 2
        · have hkb : (kd == 2) = true := beq_iff_eq.mpr hkd
          clear hkd
          go_wp2_with (first
          | (go_at_call 14; (with_reducible refine (trio_put w _ g gu gv ps ps rs page entry (LI.out.then (below_alloc (Below.refl _ _) _))).mono ?_); rintro e w1 ⟨rfl, hr, hkp⟩; have P1 := Aside0.mk hr; have X1 := Aside0.mk (hkp _ _ _ _ (blk_new wr (.cells #[.int .i64 kd, .int .u32 page, .int .u32 entry] 56)) (by decide) (by decide)); have x10 := cell_of_row w1 _ 0 _ _ _ X1.out; have x11 := cell_of_row w1 _ 1 _ _ _ X1.out; have x12 := cell_of_row w1 _ 2 _ _ _ X1.out; clear hr hkp)
          | (go_at_call 14; (with_reducible refine (trio_put w w1 gu g gv _ _ _ page entry P1.out.swap).mono ?_); rintro e w3 ⟨rfl, hr, hkp⟩; have P3 := Aside0.mk hr.swap; have X3 := Aside0.mk (hkp _ _ _ _ X1.out (by decide) (by decide)); have x30 := cell_of_row w3 _ 0 _ _ _ X3.out; have x31 := cell_of_row w3 _ 1 _ _ _ X3.out; have x32 := cell_of_row w3 _ 2 _ _ _ X3.out; clear hr hkp)
          | (go_at_call 25; (with_reducible refine (trio_drop w w3 g gu gv _ _ _ page P3.out).mono ?_); rintro e w4 ⟨rfl, hr, hkp⟩; have P4 := Aside0.mk hr; have X4 := Aside0.mk (hkp _ _ _ _ X3.out (by decide) (by decide)); have x40 := cell_of_row w4 _ 0 _ _ _ X4.out; have x41 := cell_of_row w4 _ 1 _ _ _ X4.out; have x42 := cell_of_row w4 _ 2 _ _ _ X4.out; clear hr hkp)
          | (go_at_call 29; (with_reducible refine (trio_clear w w4 gv gu g _ _ _ P4.out.last).mono ?_); rintro e w5 ⟨rfl, hr, hkp⟩; have P5 := Aside0.mk hr.last; have X5 := Aside0.mk (hkp _ _ _ _ X4.out (by decide) (by decide)); have x50 := cell_of_row w5 _ 0 _ _ _ X5.out; have x51 := cell_of_row w5 _ 1 _ _ _ X5.out; have x52 := cell_of_row w5 _ 2 _ _ _ X5.out; clear hr hkp)
          | (go_at_call 25; (with_reducible refine (trio_drop w w5 gu g gv _ _ _ page P5.out.swap).mono ?_); rintro e w6 ⟨rfl, hr, hkp⟩; have P6 := Aside0.mk hr.swap; have X6 := Aside0.mk (hkp _ _ _ _ X5.out (by decide) (by decide)); have x60 := cell_of_row w6 _ 0 _ _ _ X6.out; have x61 := cell_of_row w6 _ 1 _ _ _ X6.out; have x62 := cell_of_row w6 _ 2 _ _ _ X6.out; clear hr hkp))
          go_roundw
          case rel => exact ⟨k + 1, _, _, by omega, rfl, P6⟩
          case measure => simp [intOf]; omega
        · have hkb : (kd == 2) = false := beq_eq_false_iff_ne.mpr hkd
          go_wp2_with (first
          | (go_at_call 14; (with_reducible refine (trio_put w _ g gu gv ps ps rs page entry (LI.out.then (below_alloc (Below.refl _ _) _))).mono ?_); rintro e w1 ⟨rfl, hr, hkp⟩; have P1 := Aside0.mk hr; have X1 := Aside0.mk (hkp _ _ _ _ (blk_new wr (.cells #[.int .i64 kd, .int .u32 page, .int .u32 entry] 56)) (by decide) (by decide)); have x10 := cell_of_row w1 _ 0 _ _ _ X1.out; have x11 := cell_of_row w1 _ 1 _ _ _ X1.out; have x12 := cell_of_row w1 _ 2 _ _ _ X1.out; clear hr hkp)
          | (go_at_call 14; (with_reducible refine (trio_put w w1 gu g gv _ _ _ page entry P1.out.swap).mono ?_); rintro e w3 ⟨rfl, hr, hkp⟩; have P3 := Aside0.mk hr.swap; have X3 := Aside0.mk (hkp _ _ _ _ X1.out (by decide) (by decide)); have x30 := cell_of_row w3 _ 0 _ _ _ X3.out; have x31 := cell_of_row w3 _ 1 _ _ _ X3.out; have x32 := cell_of_row w3 _ 2 _ _ _ X3.out; clear hr hkp)
          | (go_at_call 25; (with_reducible refine (trio_drop w w3 g gu gv _ _ _ page P3.out).mono ?_); rintro e w4 ⟨rfl, hr, hkp⟩; have P4 := Aside0.mk hr; have X4 := Aside0.mk (hkp _ _ _ _ X3.out (by decide) (by decide)); have x40 := cell_of_row w4 _ 0 _ _ _ X4.out; have x41 := cell_of_row w4 _ 1 _ _ _ X4.out; have x42 := cell_of_row w4 _ 2 _ _ _ X4.out; clear hr hkp)
          | (go_at_call 29; (with_reducible refine (trio_clear w w4 gv gu g _ _ _ P4.out.last).mono ?_); rintro e w5 ⟨rfl, hr, hkp⟩; have P5 := Aside0.mk hr.last; have X5 := Aside0.mk (hkp _ _ _ _ X4.out (by decide) (by decide)); have x50 := cell_of_row w5 _ 0 _ _ _ X5.out; have x51 := cell_of_row w5 _ 1 _ _ _ X5.out; have x52 := cell_of_row w5 _ 2 _ _ _ X5.out; clear hr hkp)
          | (go_at_call 25; (with_reducible refine (trio_drop w w5 gu g gv _ _ _ page P5.out.swap).mono ?_); rintro e w6 ⟨rfl, hr, hkp⟩; have P6 := Aside0.mk hr.swap; have X6 := Aside0.mk (hkp _ _ _ _ X5.out (by decide) (by decide)); have x60 := cell_of_row w6 _ 0 _ _ _ X6.out; have x61 := cell_of_row w6 _ 1 _ _ _ X6.out; have x62 := cell_of_row w6 _ 2 _ _ _ X6.out; clear hr hkp))
          go_roundw
          case rel => exact ⟨k + 1, _, _, by omega, rfl, P3⟩
          case measure => simp [intOf]; omega
theorem TlbApart_walk (a0 : Option Addr) (len0 cap0 : Nat) (a1 : Option Addr) (len1 cap1 : Nat) (w : World) (w0 : IsRow3 (IntV .i64) (IntV .u32) (IntV .u32) w a0 len0 cap0) (w1 : IsRow3 (IntV .i64) (IntV .u32) (IntV .u32) w a1 len1 cap1) :
    Calls Try.prog 10 #[.slice a0 len0 cap0, .slice a1 len1 cap1] w fun e w' => e = .returned (.bool true) ∧ Below w.heap.size w w' := by
  by_cases h : 60 < len0 ∨ 60 < len1
  · exact apart_long a0 a1 len0 len1 cap0 cap1 w h
  · exact apart_ok a0 a1 len0 len1 cap0 cap1 w (by omega) (by omega) w0 w1
end Go.Proofs.Ytocjadgakalbdaa.TlbWalk
