/- MmuDoes, walked. -/
import Derived.Test.YtiogbgjeimdgmaaRefP
namespace Go.Proofs.Ytiogbgjeimdgmaa.RefWalk
open Go.RowKit Go.Proofs.Ytiogbgjeimdgmaa.Aid Go.Proofs.YtiogbgjeimdgmaaW.PrintWords Go.Proofs.YtiogbgjeimdgmaaW.PrintLast Go.Proofs.YtiogbgjeimdgmaaW.PrintMore
open Go.Proofs.Ytiogbgjeimdgmaa.MmuWalk (Chg R32 Flt fltV noF flt infoF Tabs row_ty own_keep two_ty box1 row_then foot mine MmuAt MStep NextRow mTy noT mnew_call mset_call malive_call ram_below1)
open Go.Proofs.Ytiogbgjeimdgmaa.RamWalk (Bytes leN own_cell putL RamAt new_nat load_n)
open Go.Proofs.Ytiogbgjeimdgmaa.TlbWalk (RefAt own_then own_val own_some dropP)
attribute [local go_sem] max2_int min2_int max_two min_two max_three min_three max_four min_four   -- for this text's walks alone
set_option linter.unusedVariables false
set_option linter.unusedSimpArgs false
theorem mdoes_off (A : Option Addr) (n c : Nat) (T : Tabs) (A1 : Option Addr) (n1 c1 : Nat) (w : World) (h : 8192 < n) :
    Calls Try.prog 12 #[.slice A n c, .agg #[.int .u32 T.p0b, .int .u32 T.p0l, .int .u32 T.sb, .int .u32 T.sl, .int .u32 T.men], .slice A1 n1 c1] w fun e w' => e = .returned (.bool true) ∧ Below w.heap.size w w' := by
  have h2 : (8192 : Int) < n := by omega
  clear h
  go_enter Try.func12, Try.ntmps12
  go_wp2_with (first
    | (go_at_call 28; (with_reducible refine (malive_call _).mono ?_); rintro e w0 ⟨rfl, hb0⟩; have B0 := Aside0.mk (below_step (below_alloc (Below.refl w.heap.size w) _) hb0); clear hb0))
  go_ret
  exact ⟨rfl, B0.out⟩
theorem mdoes_great (A : Option Addr) (n c : Nat) (T : Tabs) (A1 : Option Addr) (n1 c1 : Nat) (cs : List Cal) (w : World) (h : n ≤ 8192) (hc : cs.length = n1) (hn1 : n1 ≤ 9223372036854775807) (h0 : ¬ (n1 ≤ 60 ∧ ∀ i, i < n1 → fineC (gC cs i))) (r : CalRow w A1 cs) :
    Calls Try.prog 12 #[.slice A n c, .agg #[.int .u32 T.p0b, .int .u32 T.p0l, .int .u32 T.sb, .int .u32 T.sl, .int .u32 T.men], .slice A1 n1 c1] w fun e w' => e = .returned (.bool true) ∧ Below w.heap.size w w' := by
  have h2 : ¬ (8192 : Int) < n := by omega
  have H := Aside0.mk h0
  have R := Aside0.mk r
  have HC := Aside0.mk hc
  clear h h0 r hc
  go_enter Try.func12, Try.ntmps12
  go_wp2_with (first
    | (go_at_call 28; (with_reducible refine (malive_call _).mono ?_); rintro e wa ⟨rfl, hb0⟩; have BA := Aside0.mk (below_step (below_alloc (Below.refl w.heap.size w) _) hb0); clear hb0)
    | (go_at_call 48; (with_reducible refine (great_yes _ A1 c1 cs n1 HC.out hn1 (R.out.then BA.out) H.out).mono ?_); rintro e w0 ⟨rfl, hb0⟩; have B0 := Aside0.mk (below_step BA.out hb0); clear hb0))
  go_ret
  exact ⟨rfl, B0.out⟩
/-- All that the loop keeps. -/
def DUx (w0 W : World) (L R : LocR) : Prop := ∃ v vp ve T ps l, DU w0 W L R v vp ve T ps l T false ps l
set_option maxRecDepth 100000 in
set_option maxHeartbeats 8000000 in
theorem mdoes_ok (A : Option Addr) (c : Nat) (l : List Int) (T : Tabs) (A1 : Option Addr) (n1 c1 : Nat) (cs : List Cal) (w : World) (hn : l.length ≤ 8192) (hl : ReadsInt w .u8 A l.length l) (hb : Bytes l) (hT : T.ok) (hc : cs.length = n1) (hn1 : n1 ≤ 9223372036854775807) (H0 : n1 ≤ 60 ∧ ∀ i, i < n1 → fineC (gC cs i)) (r : CalRow w A1 cs) (ro : ∀ i, i < n1 → CalOk w (gC cs i)) :
    Calls Try.prog 12 #[.slice A l.length c, .agg #[.int .u32 T.p0b, .int .u32 T.p0l, .int .u32 T.sb, .int .u32 T.sl, .int .u32 T.men], .slice A1 n1 c1] w fun e w' => e = .returned (.bool true) ∧ Below w.heap.size w w' := by
  have HL := Aside0.mk hl
  have HB := Aside0.mk hb
  have HT := Aside0.mk hT
  have R := Aside0.mk r
  have RO := Aside0.mk ro
  have HC := Aside0.mk hc
  have H := Aside0.mk H0
  have AP := Aside0.mk (fun (w0 W : World) (g b c' g' b' c2 : Nat) (l1 l2 : List Int) (h0 : Below w.heap.size w w0) (h : RR w0 W g b c' g' b' c2 l.length l1 l2) => (fun a ha hp => by
    obtain ⟨ad, he, hcell⟩ := HL.out.2.2 hp
    have hbk := World.block_lt_of_cell? w _ (hcell 0 hp)
    rw [he] at ha
    simp only [Option.some.injEq] at ha
    subst ha
    have hz : (ad.add 0).block = ad.block := rfl
    rw [hz] at hbk
    have := own_base h.r.2.2.1 b' rfl
    have := h0.size
    intro e
    omega : ∀ a, A = some a → 0 < l.length → a.block ≠ b'))
  have NEW := Aside0.mk (fun w => new_nat l.length w (by omega))
  have RNEW := Aside0.mk (fun w => rnew_call l.length w (by omega))
  have h2 : ¬ (8192 : Int) < l.length := by omega
  clear hl hb hT r ro hc H0
  go_enter Try.func12, Try.ntmps12
  go_wp2_with (first
    | (go_at_call 28; (with_reducible refine (malive_call _).mono ?_); rintro e wa ⟨rfl, hb0⟩; have BA := Aside0.mk (below_step (below_alloc (Below.refl w.heap.size w) _) hb0); have XA := Aside0.mk (row_then (heap_alloc_new w _) hb0); clear hb0)
    | (go_at_call 48; (with_reducible refine (great_no _ A1 c1 cs n1 HC.out hn1 (R.out.then BA.out) H.out).mono ?_); rintro e w0 ⟨rfl, hb0⟩; have B0 := Aside0.mk (below_step BA.out hb0); have X0 := Aside0.mk (row_then XA.out hb0); clear hb0)
    | (go_at_call 14; (with_reducible refine (NEW.out _).mono ?_); rintro e w1 ⟨gr, b, rfl, hr, hbel⟩; have R1 := Aside0.mk hr; have B1 := Aside0.mk hbel; clear hr hbel)
    | (go_at_call 15; (with_reducible refine (RNEW.out _).mono ?_); rintro e w2 ⟨gr', b', rfl, hr, hbel⟩; have R2 := Aside0.mk (rr_new B1.out R1.out hbel hr); clear hr hbel)
    | (go_at_call 16; (with_reducible refine (load_n _ _ _ _ _ _ _ l _ _ R2.out.m (HL.out.below (below_step B0.out R2.out.below))).mono ?_); rintro e w3 ⟨rfl, hr, hg⟩; have R3 := Aside0.mk (rr_load R2.out hr hg); clear hr hg)
    | (go_at_call 17; (with_reducible refine (rload_all _ _ _ _ _ _ _ l _ _ rfl List.length_replicate R3.out.r (HL.out.below (below_step B0.out R3.out.below)) (AP.out _ _ _ _ _ _ _ _ _ _ B0.out R3.out)).mono ?_); rintro e w4 ⟨rfl, hr, hg⟩; have R4 := Aside0.mk (rr_rload R3.out hr hg); clear hr hg)
    | (go_at_call 18; (with_reducible refine (mnew_call _ _ _ _ _ l R4.out.m HB.out).mono ?_); rintro e w5 ⟨m, t, rfl, hm, hbel, _, _⟩; have M5 := Aside0.mk hm; have Q5 := Aside0.mk (R4.out.r.then hbel); have B5 := Aside0.mk (below_step R4.out.below hbel); clear hm hbel)
    | (go_at_call 19; (with_reducible refine (rmnew_call _ _ _ _ _ l Q5.out HB.out).mono ?_); rintro e w6 ⟨m', t', rfl, hm, hbel, _, _⟩; have D6 := Aside0.mk (du_new (below_step B5.out hbel) (M5.out.then hbel) hm R4.out.ne); have X6 := Aside0.mk (row_then X0.out (below_step B5.out hbel)); have e0 := cell_of_row _ _ 0 _ _ _ X6.out; have e1 := cell_of_row _ _ 1 _ _ _ X6.out; have e2 := cell_of_row _ _ 2 _ _ _ X6.out; have e3 := cell_of_row _ _ 3 _ _ _ X6.out; have e4 := cell_of_row _ _ 4 _ _ _ X6.out; simp only [List.getElem?_toArray, List.getElem?_cons_zero, List.getElem?_cons_succ] at e0 e1 e2 e3 e4; clear hm hbel)
    | (go_at_call 20; (with_reducible refine (mset_call _ _ ⟨m, gr, b, l.length, t⟩ _ noT T [] l D6.out.m HT.out).mono ?_); rintro e w7 ⟨rfl, s⟩; obtain ⟨v7, D7⟩ := D6.out.stepM s; have D7 := Aside0.mk D7; have X7 := Aside0.mk (row_then X0.out D7.out.below); have S5 := Aside0.mk (rm_put5_step D7.out.r T HT.out); have D8 := Aside0.mk (D7.out.stepR S5.out); have c2 := D7.out.r.cell 2; have c3 := D7.out.r.cell 3; have c4 := D7.out.r.cell 4; have c5 := D7.out.r.cell 5; have c6 := D7.out.r.cell 6; have f2 := D7.out.r.free 2; have f3 := D7.out.r.free 3; have f4 := D7.out.r.free 4; have f5 := D7.out.r.free 5; have f6 := D7.out.r.free 6; clear e0 e1 e2 e3 e4; have e0 := cell_of_row _ _ 0 _ _ _ X7.out; have e1 := cell_of_row _ _ 1 _ _ _ X7.out; have e2 := cell_of_row _ _ 2 _ _ _ X7.out; have e3 := cell_of_row _ _ 3 _ _ _ X7.out; have e4 := cell_of_row _ _ 4 _ _ _ X7.out; simp only [rmCells, List.getElem?_toArray, List.getElem?_cons_zero, List.getElem?_cons_succ] at e0 e1 e2 e3 e4 c2 c3 c4 c5 c6; clear s))
  clear c2 c3 c4 c5 c6 f2 f3 f4 f5 f6 e0 e1 e2 e3 e4
  obtain ⟨vp8, ve8, d8, _, _⟩ := D8.out
  have D9 := Aside0.mk (show DUx w0 (((((w7.setCell ⟨m', 2, none⟩ (.int .u32 T.p0b)).setCell ⟨m', 3, none⟩ (.int .u32 T.p0l)).setCell ⟨m', 4, none⟩ (.int .u32 T.sb)).setCell ⟨m', 5, none⟩ (.int .u32 T.sl)).setCell ⟨m', 6, none⟩ (.int .u32 T.men)) ⟨m, gr, b, l.length, t⟩ ⟨m', gr', b', l.length, t'⟩ from ⟨_, _, _, _, _, _, d8⟩)
  clear d8 D8 S5
  obtain ⟨L, hL⟩ : ∃ L : LocR, (⟨m, gr, b, l.length, t⟩ : LocR) = L := ⟨_, rfl⟩
  obtain ⟨RL, hR⟩ : ∃ L : LocR, (⟨m', gr', b', l.length, t'⟩ : LocR) = L := ⟨_, rfl⟩
  obtain rfl : m = L.m := by rw [← hL]
  obtain rfl : gr = L.r := by rw [← hL]
  obtain rfl : m' = RL.m := by rw [← hR]
  rw [hL, hR] at D9
  clear hL hR D6 D7 M5 Q5 R1 R2 R3 R4
  go_loopw [53] (fun iv wr => ∃ k : Nat, k ≤ n1 ∧ iv = .int .i64 k ∧ Aside0 (DUx w0 wr L RL)) (fun iv _ => n1 - (intOf iv).toNat)
  case atStart => exact ⟨0, Nat.zero_le _, rfl, D9⟩
  case round =>
    obtain ⟨k, hk, rfl, DD⟩ := hrel
    clear D9
    by_cases hkn : k = n1
    · subst hkn
      obtain ⟨_, _, _, _, _, _, D⟩ := DD.out
      have BW := Aside0.mk (below_step B0.out D.below)
      have X9 := row_then X0.out D.below
      have e0 := cell_of_row _ _ 0 _ _ _ X9
      have e1 := cell_of_row _ _ 1 _ _ _ X9
      have e2 := cell_of_row _ _ 2 _ _ _ X9
      have e3 := cell_of_row _ _ 3 _ _ _ X9
      have e4 := cell_of_row _ _ 4 _ _ _ X9
      simp only [List.getElem?_toArray, List.getElem?_cons_zero, List.getElem?_cons_succ] at e0 e1 e2 e3 e4
      clear X9 D DD
      go_wp2_with (first
        | (go_at_call 20; (with_reducible refine (nset _ _ _ _ _ _).mono ?_); rintro e u1 ⟨rfl, hb⟩; have B1 := Aside0.mk (below_step BW.out hb); clear hb)
        | (go_at_call 30; (with_reducible refine (nclear _).mono ?_); rintro e u2 ⟨rfl, rfl⟩)
        | (go_at_call 31; (with_reducible refine (ndrop _ _).mono ?_); rintro e u3 ⟨rfl, rfl⟩)
        | (go_at_call 34; (with_reducible refine (nload _ _ _ _).mono ?_); rintro e u4 ⟨rfl, hb⟩; have B2 := Aside0.mk (below_step B1.out hb); clear hb)
        | (go_at_call 32; (with_reducible refine (npeek _ _ _).mono ?_); rintro e u5 ⟨rfl, hb⟩; have B3 := Aside0.mk (below_step (below_alloc B2.out (.cells #[.int .i64 1, .int .u32 7, .int .u32 0] 47 (0, 0))) hb); have Y1 := Aside0.mk (row_then (heap_alloc_new u4 (.cells #[.int .i64 1, .int .u32 7, .int .u32 0] 47 (0, 0))) hb); clear hb))
      have bA := below_alloc (Below.refl u5.heap.size u5) (.cells #[.int .i64 1, .int .u32 7, .int .u32 0] 47 (0, 0))
      have bB := below_alloc (Below.refl (u5.alloc (.cells #[.int .i64 1, .int .u32 7, .int .u32 0] 47 (0, 0))).heap.size (u5.alloc (.cells #[.int .i64 1, .int .u32 7, .int .u32 0] 47 (0, 0)))) (.cells #[.int .i64 1, .int .u32 7, .int .u32 0] 47 (0, 0))
      have Y1 := Aside0.mk (row_then (row_then Y1.out bA) bB)
      have Y2 := Aside0.mk (row_then (heap_alloc_new u5 (.cells #[.int .i64 1, .int .u32 7, .int .u32 0] 47 (0, 0))) bB)
      have Y3 : Aside0 (((u5.alloc (.cells #[.int .i64 1, .int .u32 7, .int .u32 0] 47 (0, 0))).alloc (.cells #[.int .i64 1, .int .u32 7, .int .u32 0] 47 (0, 0))).heap[u5.heap.size + 1]? = some (.cells #[.int .i64 1, .int .u32 7, .int .u32 0] 47 (0, 0))) := ⟨by
        have q := heap_alloc_new (u5.alloc (.cells #[.int .i64 1, .int .u32 7, .int .u32 0] 47 (0, 0))) (.cells #[.int .i64 1, .int .u32 7, .int .u32 0] 47 (0, 0))
        rw [show (u5.alloc (.cells #[.int .i64 1, .int .u32 7, .int .u32 0] 47 (0, 0))).heap.size = u5.heap.size + 1 from Array.size_push _] at q
        exact q⟩
      have BV := Aside0.mk (below_step B3.out (below_step bA bB))
      clear bA bB
      generalize (u5.alloc (.cells #[.int .i64 1, .int .u32 7, .int .u32 0] 47 (0, 0))).alloc (.cells #[.int .i64 1, .int .u32 7, .int .u32 0] 47 (0, 0)) = V at *
      generalize u4.heap.size = p at *
      generalize u5.heap.size = q at *
      have hS : Aside0 (∀ W', Below V.heap.size V W' → W'.cell? ⟨p, 0, none⟩ = some (.int .i64 1) ∧ W'.cell? ⟨p, 1, none⟩ = some (.int .u32 7) ∧ W'.cell? ⟨p, 2, none⟩ = some (.int .u32 0) ∧ W'.cell? ⟨q, 0, none⟩ = some (.int .i64 1) ∧ W'.cell? ⟨q, 1, none⟩ = some (.int .u32 7) ∧ W'.cell? ⟨q, 2, none⟩ = some (.int .u32 0) ∧ W'.cell? ⟨q + 1, 0, none⟩ = some (.int .i64 1) ∧ W'.cell? ⟨q + 1, 1, none⟩ = some (.int .u32 7) ∧ W'.cell? ⟨q + 1, 2, none⟩ = some (.int .u32 0)) := ⟨fun W' hW => ⟨cell_of_row _ _ 0 _ _ _ (row_then Y1.out hW), cell_of_row _ _ 1 _ _ _ (row_then Y1.out hW), cell_of_row _ _ 2 _ _ _ (row_then Y1.out hW), cell_of_row _ _ 0 _ _ _ (row_then Y2.out hW), cell_of_row _ _ 1 _ _ _ (row_then Y2.out hW), cell_of_row _ _ 2 _ _ _ (row_then Y2.out hW), cell_of_row _ _ 0 _ _ _ (row_then Y3.out hW), cell_of_row _ _ 1 _ _ _ (row_then Y3.out hW), cell_of_row _ _ 2 _ _ _ (row_then Y3.out hW)⟩⟩
      have hS0 := hS.out V (Below.refl _ _)
      go_region_held3 (fun W' => W'.cell? ⟨p, 0, none⟩ = some (.int .i64 1) ∧ W'.cell? ⟨p, 1, none⟩ = some (.int .u32 7) ∧ W'.cell? ⟨p, 2, none⟩ = some (.int .u32 0) ∧ W'.cell? ⟨q, 0, none⟩ = some (.int .i64 1) ∧ W'.cell? ⟨q, 1, none⟩ = some (.int .u32 7) ∧ W'.cell? ⟨q, 2, none⟩ = some (.int .u32 0) ∧ W'.cell? ⟨q + 1, 0, none⟩ = some (.int .i64 1) ∧ W'.cell? ⟨q + 1, 1, none⟩ = some (.int .u32 7) ∧ W'.cell? ⟨q + 1, 2, none⟩ = some (.int .u32 0))
        (first | exact hS.out _ ((Below.refl _ _).drew) | exact hS.out _ C6.out | exact hS.out _ (below_alloc C6.out _) | exact hS.out _ C7.out | exact hS.out _ C8.out)
        (first
        | (go_at_call 35; (with_reducible refine (nprobe _ _ _ _ _).mono ?_); rintro e u6 ⟨rfl, hb⟩; have C6 := Aside0.mk (below_step ((Below.refl V.heap.size V).drew) hb); clear hb)
        | (go_at_call 38; (with_reducible refine (nstore _ _ _ _ _ _).mono ?_); rintro e u7 ⟨rfl, hb⟩; have C7 := Aside0.mk (below_step (below_alloc C6.out _) hb); clear hb)
        | (go_at_call 53; (with_reducible refine (ntables _).mono ?_); rintro e u8 ⟨rfl, hb⟩; have C8 := Aside0.mk (below_step C7.out hb); clear hb)
        | (go_at_call 33; (with_reducible refine (nbuf _).mono ?_); rintro e u9 ⟨rfl, rfl⟩))
      all_goals (
        go_wp2
        go_ret
        exact ⟨rfl, below_step BV.out C8.out⟩)
    · have hk' : k < n1 := by omega
      have HK := Aside0.mk hk'
      obtain ⟨v, vp, ve, T1, ps, l1, D⟩ := DD.out
      obtain ⟨bb, off, rfl, hbl, hcc⟩ := R.out (by have := HC.out; omega)
      have hcc := hcc k (by have := HC.out; omega)
      have DA := does_any T1 ps l1 (gC cs k) w0 ((RO.out k hk').then B0.out) (H.out.2 k hk')
      obtain ⟨e, he⟩ : ∃ e, gC cs k = e := ⟨_, rfl⟩
      rw [he] at hcc DA
      clear he
      obtain ⟨kd, va, x, nn, u, wq, A', nb, cb, t1, t2, t3, t4, t5⟩ := e
      obtain ⟨T2, ps2, l2, DA⟩ := DA
      have DA := Aside0.mk (show ∀ (w : World) (L R : LocR) (v vp ve : Value), DU w0 w L R v vp ve T1 ps l1 T1 false ps l1 → Calls Try.prog 51 #[.pointer (some ⟨L.r, 0, none⟩), .pointer (some ⟨L.m, 0, none⟩), .pointer (some ⟨R.m, 0, none⟩), .agg #[.int .i64 kd, .int .u32 va, .int .u32 x, .int .i64 nn, .bool u, .bool wq, .slice A' nb cb, .int .u32 t1, .int .u32 t2, .int .u32 t3, .int .u32 t4, .int .u32 t5]] w fun e w' => e = .returned (.bool true) ∧ ∃ v' vp' ve', DU w0 w' L R v' vp' ve' T2 ps2 l2 T2 false ps2 l2 from DA)
      have dd : ∀ j v, (#[.int .i64 kd, .int .u32 va, .int .u32 x, .int .i64 nn, .bool u, .bool wq, .slice A' nb cb, .int .u32 t1, .int .u32 t2, .int .u32 t3, .int .u32 t4, .int .u32 t5] : Array Value)[j]? = some v → wr.cell? ⟨bb, off + k * 12 + j, Option.none⟩ = some v := fun j v hj => ((below_step B0.out D.below).cell (p := ⟨bb, off + k * 12 + j, Option.none⟩) hbl).trans (hcc j v hj)
      have d0 := dd 0 _ rfl
      have d1 := dd 1 _ rfl
      have d2 := dd 2 _ rfl
      have d3 := dd 3 _ rfl
      have d4 := dd 4 _ rfl
      have d5 := dd 5 _ rfl
      have d6 := dd 6 _ rfl
      have d7 := dd 7 _ rfl
      have d8 := dd 8 _ rfl
      have d9 := dd 9 _ rfl
      have d10 := dd 10 _ rfl
      have d11 := dd 11 _ rfl
      rw [Nat.add_zero] at d0
      have D1 := Aside0.mk D
      clear hcc dd D DD
      go_wp2_with fail
      have D2 := Aside0.mk (D1.out.then (below_alloc (Below.refl wr.heap.size wr) (.cells #[.int .i64 kd, .int .u32 va, .int .u32 x, .int .i64 nn, .bool u, .bool wq, .slice A' nb cb, .int .u32 t1, .int .u32 t2, .int .u32 t3, .int .u32 t4, .int .u32 t5] 92)))
      have C1 := heap_alloc_new wr (.cells #[.int .i64 kd, .int .u32 va, .int .u32 x, .int .i64 nn, .bool u, .bool wq, .slice A' nb cb, .int .u32 t1, .int .u32 t2, .int .u32 t3, .int .u32 t4, .int .u32 t5] 92)
      clear d0 d1 d2 d3 d4 d5 d6 d7 d8 d9 d10 d11
      generalize wr.alloc (.cells #[.int .i64 kd, .int .u32 va, .int .u32 x, .int .i64 nn, .bool u, .bool wq, .slice A' nb cb, .int .u32 t1, .int .u32 t2, .int .u32 t3, .int .u32 t4, .int .u32 t5] 92) = wb at *
      clear C1
      go_wp2_with (first
        | (go_at_call 51; (with_reducible refine (DA.out _ L RL v vp ve D2.out).mono ?_); rintro e w2 ⟨rfl, v2, vp2, ve2, d⟩; have D3 := Aside0.mk d; clear d)
        | (go_at_call 52; (with_reducible refine (same_yes w0 _ L RL v2 vp2 ve2 T2 false ps2 l2 D3.out).mono ?_); rintro e w3 ⟨rfl, hb⟩; have D4 := Aside0.mk (D3.out.then hb); clear hb))
      go_roundw
      case rel => exact ⟨k + 1, HK.out, by go_num, ⟨_, _, _, _, _, _, D4.out⟩⟩
      case measure => have := HK.out; simp [intOf]; omega
theorem MmuDoes_walk (a0 : Option Addr) (len0 cap0 : Nat) (z0 : List Int) (t1 t2 t3 t4 t5 : Int) (a2 : Option Addr) (len2 cap2 : Nat) (w : World) (w0 : IsRow .u8 w a0 len0 cap0 z0) (_ : len0 * 1 ≤ 140737488351232)
    (h1 : (Lit.int .u32 t1).wf = true) (h2 : (Lit.int .u32 t2).wf = true) (h3 : (Lit.int .u32 t3).wf = true) (h4 : (Lit.int .u32 t4).wf = true) (h5 : (Lit.int .u32 t5).wf = true) (w2 : IsRowN 12 CallV w a2 len2 cap2) :
    Calls Try.prog 12 #[.slice a0 len0 cap0, .agg #[.int .u32 t1, .int .u32 t2, .int .u32 t3, .int .u32 t4, .int .u32 t5], .slice a2 len2 cap2] w fun e w' => e = .returned (.bool true) ∧ Below w.heap.size w w' := by
  obtain ⟨l, rfl, hr, hm, hwf, hc⟩ := ReadsInt.ofRowC w0
  obtain ⟨cs, hcs, r, ro⟩ := calRow w2
  have rr : ∀ {x : Int}, (Lit.int .u32 x).wf = true → R32 x := fun {x} h => by
    obtain ⟨n, rfl, hn⟩ := u32_nat h
    unfold R32; omega
  have hT : Tabs.ok ⟨t1, t2, t3, t4, t5⟩ := ⟨rr h1, rr h2, rr h3, rr h4, rr h5⟩
  have hby : Bytes l := fun x hx => by obtain ⟨j, rfl, hj⟩ := u8_nat (hwf x hx); omega
  have hn2 : len2 ≤ 9223372036854775807 := by have := w2.1; unfold maxLen at this; omega
  by_cases h : 8192 < l.length
  · exact mdoes_off a0 _ cap0 ⟨t1, t2, t3, t4, t5⟩ a2 _ cap2 w h
  · by_cases H : len2 ≤ 60 ∧ ∀ i, i < len2 → fineC (gC cs i)
    · exact mdoes_ok a0 cap0 l ⟨t1, t2, t3, t4, t5⟩ a2 len2 cap2 cs w (by omega) hr hby hT hcs hn2 H r ro
    · exact mdoes_great a0 l.length cap0 ⟨t1, t2, t3, t4, t5⟩ a2 len2 cap2 cs w (by omega) hcs hn2 H r
end Go.Proofs.Ytiogbgjeimdgmaa.RefWalk
