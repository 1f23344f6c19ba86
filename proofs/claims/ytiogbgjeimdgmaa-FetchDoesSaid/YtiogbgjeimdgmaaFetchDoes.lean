/- FetchDoes, walked. -/
import Derived.Test.YtiogbgjeimdgmaaRefZ
namespace Go.Proofs.Ytiogbgjeimdgmaa.RefWalk
open Go.RowKit Go.Proofs.Ytiogbgjeimdgmaa.Aid Go.Proofs.YtiogbgjeimdgmaaW.PrintWords Go.Proofs.YtiogbgjeimdgmaaW.PrintLast Go.Proofs.YtiogbgjeimdgmaaW.PrintMore
open Go.Proofs.Ytiogbgjeimdgmaa.MmuWalk (Chg R32 Flt fltV noF flt infoF infoB Tabs row_ty own_keep two_ty box1 row_then foot mine MmuAt MStep NextRow mTy noT mnew_call mset_call falive_call ram_below1 cycF cycF_pc cycF_good goodF qCells qfoot Pc Pcs szI storeP storeL byL take_off)
open Go.Proofs.Ytiogbgjeimdgmaa.RamWalk (Bytes leN own_cell putL RamAt new_nat load_n)
open Go.Proofs.Ytiogbgjeimdgmaa.TlbWalk (RefAt own_then own_val own_some dropP)
attribute [local go_sem] max2_int min2_int max_two min_two max_three min_three max_four min_four   -- for this text's walks alone
set_option linter.unusedVariables false
set_option linter.unusedSimpArgs false
theorem kc {W W' : World} (h : KeepB W W') {g : Nat} {cs : Array Value} {fr : Nat × Nat} (hg : W.heap[g]? = some (.cells cs 85 fr)) : W'.heap[g]? = some (.cells cs 85 fr) := h g cs _ fr hg oTy_fcall.1 oTy_fcall.2.1 oTy_fcall.2.2
theorem sd {P : Prop} (h : P) : Aside0 P := ⟨h⟩
theorem gA {α : Type} (l : List α) (i : Nat) : l.toArray[i]? = l[i]? := List.getElem?_toArray
theorem gB {α : Type} (a : α) (l : List α) : (a :: l)[0]? = some a := rfl
theorem gC {α : Type} (a : α) (l : List α) (i : Nat) : (a :: l)[i + 1]? = l[i]? := rfl
def DDo (w0 W : World) (L R : LocR) (q y : Nat) : Prop := ∃ T ps l pc u bs f, (R32 pc ∧ goodF f ∧ bs.length ≤ 16) ∧ YS w0 W L R T ps l T ps l q pc u bs f y pc u bs f
theorem cycF_len {T : Tabs} {ps : List (Int × Int)} {l : List Int} {pc : Int} {u : Bool} {bs : List Int} {f : Flt} (h : bs.length ≤ 16) : (cycF T ps l pc u bs f).2.1.length ≤ 16 := by
  unfold cycF
  split
  · exact h
  · rename_i hs
    split
    · exact h
    · simp only [List.length_append, List.length_cons, List.length_nil]; omega
theorem YS.ylt {w0 W : World} {L R : LocR} {T T' : Tabs} {ps qs : List (Int × Int)} {l k : List Int} {q y : Nat} {pc pc2 : Int} {u u2 : Bool} {bs bs2 : List Int} {f f2 : Flt} (h : YS w0 W L R T ps l T' qs k q pc u bs f y pc2 u2 bs2 f2) : y < W.heap.size := by
  obtain ⟨v, vp, ve, vb, yb, h⟩ := h
  exact h.ya.lt
theorem YS.ycell {w0 W : World} {L R : LocR} {T T' : Tabs} {ps qs : List (Int × Int)} {l k : List Int} {q y : Nat} {pc pc2 : Int} {u u2 : Bool} {bs bs2 : List Int} {f f2 : Flt} (h : YS w0 W L R T ps l T' qs k q pc u bs f y pc2 u2 bs2 f2) : ∃ A c, ∀ W', Below W.heap.size W W' → W'.cell? ⟨y, 3, none⟩ = some (.slice A bs2.length c) ∧ W'.cell? ⟨y, 1, none⟩ = some (.int .u32 pc2) := by
  obtain ⟨v, vp, ve, vb, yb, h⟩ := h
  obtain ⟨A, c, rfl⟩ := yq_val h.ya
  exact ⟨A, c, fun W' b => ⟨(h.ya.then b).cell 3, (h.ya.then b).cell 1⟩⟩
set_option maxRecDepth 100000 in
theorem fdoes_off (A : Option Addr) (l : List Int) (c : Nat) (T : Tabs) (A1 : Option Addr) (n1 c1 : Nat) (w : World) (h : 8192 < l.length) :
    Calls Try.prog 10 #[.slice A l.length c, .agg #[.int .u32 T.p0b, .int .u32 T.p0l, .int .u32 T.sb, .int .u32 T.sl, .int .u32 T.men], .slice A1 n1 c1] w fun e w' => e = .returned (.bool true) ∧ Below w.heap.size w w' := by
  have h2 : (8192 : Int) < l.length := by omega
  clear h
  go_enter Try.func10, Try.ntmps10
  go_wp2_with (first
    | (go_at_call 13; (with_reducible refine (falive_call _).mono ?_); rintro e w0 ⟨rfl, hb0⟩; have B0 := sd (below_step (below_alloc (Below.refl w.heap.size w) _) hb0); clear hb0))
  go_ret
  exact ⟨rfl, B0.out⟩
set_option maxRecDepth 100000 in
theorem fdoes_many (A : Option Addr) (l : List Int) (c : Nat) (T : Tabs) (A1 : Option Addr) (n1 c1 : Nat) (w : World) (h : l.length ≤ 8192) (h60 : 60 < n1) :
    Calls Try.prog 10 #[.slice A l.length c, .agg #[.int .u32 T.p0b, .int .u32 T.p0l, .int .u32 T.sb, .int .u32 T.sl, .int .u32 T.men], .slice A1 n1 c1] w fun e w' => e = .returned (.bool true) ∧ Below w.heap.size w w' := by
  have h2 : ¬ (8192 : Int) < l.length := by omega
  have h3 : (60 : Int) < n1 := by omega
  clear h h60
  go_enter Try.func10, Try.ntmps10
  go_wp2_with (first
    | (go_at_call 13; (with_reducible refine (falive_call _).mono ?_); rintro e w0 ⟨rfl, hb0⟩; have B0 := sd (below_step (below_alloc (Below.refl w.heap.size w) _) hb0); clear hb0))
  go_ret
  exact ⟨rfl, B0.out⟩
set_option maxRecDepth 100000 in
set_option maxHeartbeats 64000000 in
theorem fdoes_ok (A : Option Addr) (c : Nat) (l : List Int) (T : Tabs) (A1 : Option Addr) (n1 c1 : Nat) (cs : List FCal) (w : World) (hn : l.length ≤ 8192) (hl : ReadsInt w .u8 A l.length l) (hb : Bytes l) (hT : T.ok) (h60 : n1 ≤ 60) (hc : cs.length = n1) (r : FRow w A1 cs) (ro : ∀ i, i < n1 → FOk (gF cs i)) :
    Calls Try.prog 10 #[.slice A l.length c, .agg #[.int .u32 T.p0b, .int .u32 T.p0l, .int .u32 T.sb, .int .u32 T.sl, .int .u32 T.men], .slice A1 n1 c1] w fun e w' => e = .returned (.bool true) ∧ Below w.heap.size w w' := by
  have HL := sd hl
  have HB := sd hb
  have HT := sd hT
  have R := sd r
  have RO := sd ro
  have HC := sd hc
  have AP := sd (fun (w0 W : World) (g b c' g' b' c2 : Nat) (l1 l2 : List Int) (h0 : Below w.heap.size w w0) (h : RR w0 W g b c' g' b' c2 l.length l1 l2) => (fun a ha hp => by
    obtain ⟨ad, he, hcell⟩ := HL.out.2.2 hp
    have hbk := World.block_lt_of_cell? w _ (hcell 0 hp)
    rw [he] at ha
    simp only [Option.some.injEq] at ha
    subst ha
    have hz : (ad.add 0).block = ad.block := rfl
    rw [hz] at hbk
    have := own_base h.r.2.2.1 b' rfl
    have := h0.size
    intro e
    omega : ∀ a, A = some a → 0 < l.length → a.block ≠ b'))
  have NEW := sd (fun w => new_nat l.length w (by omega))
  have RNEW := sd (fun w => rnew_call l.length w (by omega))
  have ST := sd (fun (w : World) (X : List Int) (n : Nat) (hX : X.length = n) (A : Option Addr) (c : Nat) (h : ReadsInt w .u8 A n X) => (by subst hX; exact string_of_reads (P := Try.prog) Try.underlying22 Try.underlying5 Try.underlying9 h : (convert 22 9 (.slice A n c)).run Try.prog w = .ok (.string (strOfNums X)) w))
  have h2 : ¬ (8192 : Int) < l.length := by omega
  have h3 : ¬ (60 : Int) < n1 := by omega
  clear hl hb hT r ro hc
  go_enter Try.func10, Try.ntmps10
  go_wp2_with (first
    | (go_at_call 13; (with_reducible refine (falive_call _).mono ?_); rintro e w0 ⟨rfl, hb0⟩; have B0 := sd (below_step (below_alloc (Below.refl w.heap.size w) _) hb0); have X0 := sd (row_then (heap_alloc_new w _) hb0); clear hb0)
    | (go_at_call 14; (with_reducible refine (NEW.out _).mono ?_); rintro e w1 ⟨gr, b, rfl, hr, hbel⟩; have R1 := sd hr; have B1 := sd hbel; clear hr hbel)
    | (go_at_call 15; (with_reducible refine (RNEW.out _).mono ?_); rintro e w2 ⟨gr', b', rfl, hr, hbel⟩; have R2 := sd (rr_new B1.out R1.out hbel hr); clear hr hbel)
    | (go_at_call 16; (with_reducible refine (load_n _ _ _ _ _ _ _ l _ _ R2.out.m (HL.out.below (below_step B0.out R2.out.below))).mono ?_); rintro e w3 ⟨rfl, hr, hg⟩; have R3 := sd (rr_load R2.out hr hg); clear hr hg)
    | (go_at_call 17; (with_reducible refine (rload_all _ _ _ _ _ _ _ l _ _ rfl List.length_replicate R3.out.r (HL.out.below (below_step B0.out R3.out.below)) (AP.out _ _ _ _ _ _ _ _ _ _ B0.out R3.out)).mono ?_); rintro e w4 ⟨rfl, hr, hg⟩; have R4 := sd (rr_rload R3.out hr hg); clear hr hg)
    | (go_at_call 18; (with_reducible refine (mnew_call _ _ _ _ _ l R4.out.m HB.out).mono ?_); rintro e w5 ⟨m, t, rfl, hm, hbel, _, _⟩; have M5 := sd hm; have Q5 := sd (R4.out.r.then hbel); have B5 := sd (below_step R4.out.below hbel); clear hm hbel)
    | (go_at_call 19; (with_reducible refine (rmnew_call _ _ _ _ _ l Q5.out HB.out).mono ?_); rintro e w6 ⟨m', t', rfl, hm, hbel, _, _⟩; have D6 := sd (show DU w0 w0 (fun _ => False) w6 ⟨m, gr, b, l.length, t⟩ ⟨m', gr', b', l.length, t'⟩ (.slice none 0 0) (.slice none 0 0) (.slice none 0 0) noT [] l noT false [] l from du_new (below_step B5.out hbel) (M5.out.then hbel) hm R4.out.ne); have X6 := sd (row_then X0.out (below_step B5.out hbel)); have e0 := cell_of_row _ _ 0 _ _ _ X6.out; have e1 := cell_of_row _ _ 1 _ _ _ X6.out; have e2 := cell_of_row _ _ 2 _ _ _ X6.out; have e3 := cell_of_row _ _ 3 _ _ _ X6.out; have e4 := cell_of_row _ _ 4 _ _ _ X6.out; simp only [gA, gB, gC] at e0 e1 e2 e3 e4; clear hm hbel)
    | (go_at_call 20; (with_reducible refine (mset_call _ _ ⟨m, gr, b, l.length, t⟩ _ noT T [] l D6.out.m HT.out).mono ?_); rintro e w7 ⟨rfl, s⟩; obtain ⟨v7, D7⟩ := D6.out.stepM s; have D7 := sd D7; have X7 := sd (row_then X0.out D7.out.below); have S5 := sd (rm_put5_step D7.out.r T HT.out); have D8 := sd (D7.out.stepR S5.out); have c2 := D7.out.r.cell 2; have c3 := D7.out.r.cell 3; have c4 := D7.out.r.cell 4; have c5 := D7.out.r.cell 5; have c6 := D7.out.r.cell 6; have f2 := D7.out.r.free 2; have f3 := D7.out.r.free 3; have f4 := D7.out.r.free 4; have f5 := D7.out.r.free 5; have f6 := D7.out.r.free 6; clear e0 e1 e2 e3 e4; have e0 := cell_of_row _ _ 0 _ _ _ X7.out; have e1 := cell_of_row _ _ 1 _ _ _ X7.out; have e2 := cell_of_row _ _ 2 _ _ _ X7.out; have e3 := cell_of_row _ _ 3 _ _ _ X7.out; have e4 := cell_of_row _ _ 4 _ _ _ X7.out; simp only [rmCells, List.getElem?_toArray, List.getElem?_cons_zero, List.getElem?_cons_succ] at e0 e1 e2 e3 e4 c2 c3 c4 c5 c6; clear s))
  clear c2 c3 c4 c5 c6 f2 f3 f4 f5 f6 e0 e1 e2 e3 e4
  obtain ⟨vp8, ve8, d8, _, _⟩ := D8.out
  have D9 := sd (show ∃ v vp ve, DU w0 w0 (fun _ => False) (((((w7.setCell ⟨m', 2, none⟩ (.int .u32 T.p0b)).setCell ⟨m', 3, none⟩ (.int .u32 T.p0l)).setCell ⟨m', 4, none⟩ (.int .u32 T.sb)).setCell ⟨m', 5, none⟩ (.int .u32 T.sl)).setCell ⟨m', 6, none⟩ (.int .u32 T.men)) ⟨m, gr, b, l.length, t⟩ ⟨m', gr', b', l.length, t'⟩ v vp ve T [] l T false [] l from ⟨_, _, _, d8⟩)
  clear d8 D8 S5
  generalize (((((w7.setCell ⟨m', 2, none⟩ (.int .u32 T.p0b)).setCell ⟨m', 3, none⟩ (.int .u32 T.p0l)).setCell ⟨m', 4, none⟩ (.int .u32 T.sb)).setCell ⟨m', 5, none⟩ (.int .u32 T.sl)).setCell ⟨m', 6, none⟩ (.int .u32 T.men)) = w8 at *
  obtain ⟨L, hL⟩ : ∃ L : LocR, (⟨m, gr, b, l.length, t⟩ : LocR) = L := ⟨_, rfl⟩
  obtain ⟨RL, hR⟩ : ∃ L : LocR, (⟨m', gr', b', l.length, t'⟩ : LocR) = L := ⟨_, rfl⟩
  obtain rfl : m = L.m := by rw [← hL]
  obtain rfl : gr = L.r := by rw [← hL]
  obtain rfl : m' = RL.m := by rw [← hR]
  obtain rfl : gr' = RL.r := by rw [← hR]
  rw [hL, hR] at D9
  clear hL hR D6 D7 M5 Q5 R1 R2 R3 R4 X0 X6 B1 B5 AP NEW RNEW
  obtain ⟨v9, vp9, ve9, d9⟩ := D9.out
  have D10 := sd d9
  clear D9 d9
  go_wp2_with (first
    | (go_at_call 21; (with_reducible refine (fu_new D10.out D10.out.below.size).mono ?_); rintro e w9 ⟨q, rfl, hq, hbe, fu⟩; have F9 := sd fu; clear fu hq hbe))
  have D11 := sd (show DDo w0 (w9.alloc (.cells #[.pointer (some ⟨RL.m, 0, none⟩), .int .u32 0, .bool false, .slice none 0 0, .int .i64 0, .int .u32 0, .int .u32 0] 83)) L RL q w9.heap.size from ⟨_, _, _, _, _, _, _, ⟨⟨by decide, by decide⟩, fun _ => rfl, Nat.zero_le _⟩, ys_new F9.out⟩)
  clear F9 D10
  generalize w9.alloc (.cells #[.pointer (some ⟨RL.m, 0, none⟩), .int .u32 0, .bool false, .slice none 0 0, .int .i64 0, .int .u32 0, .int .u32 0] 83) = w10 at *
  generalize w9.heap.size = y at *
  go_loopw [66] (fun iv wr => ∃ i : Nat, i ≤ n1 ∧ iv = .int .i64 i ∧ Aside0 (DDo w0 wr L RL q y)) (fun iv _ => n1 - (intOf iv).toNat)
  case atStart => exact ⟨0, Nat.zero_le _, rfl, D11⟩
  case round =>
    obtain ⟨i, hi, rfl, DD⟩ := hrel
    clear D11
    obtain ⟨T1, ps, l1, pc, u, bs, f, ⟨hpc, hgf, hbl⟩, Y⟩ := DD.out
    have BW := sd (below_step B0.out Y.below)
    by_cases hin : i = n1
    · subst hin
      clear Y DD
      go_wp2
      go_ret
      exact ⟨rfl, BW.out⟩
    · have hi' : i < n1 := by omega
      have HI := sd hi'
      have PCC := sd hpc
      have GF := sd hgf
      obtain ⟨bb, off, rfl, hbl', hcc⟩ := R.out (by have := HC.out; omega)
      have hcc := hcc i (by have := HC.out; omega)
      have hok := RO.out i hi'
      obtain ⟨e, he⟩ : ∃ e, gF cs i = e := ⟨_, rfl⟩
      rw [he] at hcc hok
      clear he
      obtain ⟨kd, nn, va, x, uu, t1, t2, t3, t4, t5⟩ := e
      have OK := sd hok
      have dd : ∀ j v, (#[.int .i64 kd, .int .i64 nn, .int .u32 va, .int .u32 x, .bool uu, .int .u32 t1, .int .u32 t2, .int .u32 t3, .int .u32 t4, .int .u32 t5] : Array Value)[j]? = some v → wr.cell? ⟨bb, off + i * 10 + j, Option.none⟩ = some v := fun j v hj => (BW.out.cell (p := ⟨bb, off + i * 10 + j, Option.none⟩) hbl').trans (hcc j v hj)
      have d0 := dd 0 _ rfl
      have d1 := dd 1 _ rfl
      have d2 := dd 2 _ rfl
      have d3 := dd 3 _ rfl
      have d4 := dd 4 _ rfl
      have d5 := dd 5 _ rfl
      have d6 := dd 6 _ rfl
      have d7 := dd 7 _ rfl
      have d8 := dd 8 _ rfl
      have d9 := dd 9 _ rfl
      rw [Nat.add_zero] at d0
      have Y0 := sd Y
      have Y1 := sd (Y.then (below_alloc (Below.refl wr.heap.size wr) (.cells #[.int .i64 kd, .int .i64 nn, .int .u32 va, .int .u32 x, .bool uu, .int .u32 t1, .int .u32 t2, .int .u32 t3, .int .u32 t4, .int .u32 t5] 85)))
      have C1 := sd (heap_alloc_new wr (.cells #[.int .i64 kd, .int .i64 nn, .int .u32 va, .int .u32 x, .bool uu, .int .u32 t1, .int .u32 t2, .int .u32 t3, .int .u32 t4, .int .u32 t5] 85))
      clear hcc dd DD Y hok hpc hgf
      by_cases hk0 : kd = 0
      · subst hk0
        as_aux_lemma =>
          go_wp2_with fail
          clear d0 d1 d2 d3 d4 d5 d6 d7 d8 d9 Y0
          generalize wr.alloc (.cells #[.int .i64 (0 : Int), .int .i64 nn, .int .u32 va, .int .u32 x, .bool uu, .int .u32 t1, .int .u32 t2, .int .u32 t3, .int .u32 t4, .int .u32 t5] 85) = wb at *
          generalize wr.heap.size = bx at *
          have HY := sd Y1.out.ylt
          have e0 := cell_of_row _ _ 0 _ _ _ C1.out
          have e1 := cell_of_row _ _ 1 _ _ _ C1.out
          have e2 := cell_of_row _ _ 2 _ _ _ C1.out
          have e3 := cell_of_row _ _ 3 _ _ _ C1.out
          have e4 := cell_of_row _ _ 4 _ _ _ C1.out
          have e5 := cell_of_row _ _ 5 _ _ _ C1.out
          have e6 := cell_of_row _ _ 6 _ _ _ C1.out
          have e7 := cell_of_row _ _ 7 _ _ _ C1.out
          have e8 := cell_of_row _ _ 8 _ _ _ C1.out
          have e9 := cell_of_row _ _ 9 _ _ _ C1.out
          simp only [gA, gB, gC] at e0 e1 e2 e3 e4 e5 e6 e7 e8 e9
          clear e0 e1 e2 e3 e4 e5 e6 e7 e8 e9
          obtain ⟨wc, rfl⟩ : ∃ wc : World, wc = wb := ⟨_, rfl⟩
          go_loopw [16] (fun jv wr => ∃ (j : Nat) (pc : Int) (bs : List Int) (f : Flt), j ≤ 40 ∧ jv = .int .i64 j ∧ Aside0 (R32 pc ∧ goodF f ∧ bs.length ≤ 16) ∧ Aside0 (YS w0 wr L RL T1 ps l1 T1 ps l1 q pc u bs f y pc u bs f) ∧ Aside0 (wr.heap[bx]? = some (.cells #[.int .i64 (0 : Int), .int .i64 nn, .int .u32 va, .int .u32 x, .bool uu, .int .u32 t1, .int .u32 t2, .int .u32 t3, .int .u32 t4, .int .u32 t5] 85 (0, 0)))) (fun jv _ => 40 - (intOf jv).toNat)
          case atStart => exact ⟨0, pc, bs, f, by omega, rfl, ⟨PCC.out, GF.out, hbl⟩, Y1, C1⟩
          case round =>
            obtain ⟨j, pc, bs, f, hj, rfl, I, Y, C⟩ := hrel
            have e1 := cell_of_row _ _ 1 _ _ _ C.out
            simp only [gA, gB, gC] at e1
            by_cases hgo : (j : Int) < nn ∧ j < 40
            · obtain ⟨hgo1, hgo2⟩ := hgo
              have hgo3 : (j : Int) < 40 := by omega
              have HJ := sd hgo2
              have N1 := sd (show R32 (cycF T1 ps l1 pc u bs f).1 ∧ goodF (cycF T1 ps l1 pc u bs f).2.2 ∧ (cycF T1 ps l1 pc u bs f).2.1.length ≤ 16 from ⟨cycF_pc I.out.1, cycF_good I.out.2.1, cycF_len I.out.2.2⟩)
              have CA := sd (ys_cycle Y.out I.out.1 I.out.2.1)
              have CB := sd (fun W' (pq : Int) (bq : List Int) (fq : Flt) (h : YS w0 W' L RL T1 ps l1 T1 ps l1 q pq u bq fq y pc u bs f) => ys_ycycle h I.out.1 I.out.2.1 I.out.2.2)
              generalize cycF T1 ps l1 pc u bs f = rr at *
              obtain ⟨pc3, bs3, f3⟩ := rr
              clear hgo2
              go_wp2_with (first
                | (go_at_call 23; (with_reducible refine (CA.out).mono ?_); rintro e w2 ⟨rfl, ys2, kb2⟩; have Y2 := sd ys2; have C2 := sd (kc kb2 C.out); clear ys2 kb2)
                | (go_at_call 42; (with_reducible refine (CB.out _ _ _ _ Y2.out).mono ?_); rintro e w3 ⟨rfl, ys3, kb3⟩; have Y3 := sd ys3; have C3 := sd (kc kb3 C2.out); clear ys3 kb3)
                | (go_at_call 23; (with_reducible refine (nq_cycle _).mono ?_); rintro e w4 ⟨rfl, rfl⟩))
              go_roundw
              case rel => exact ⟨j + 1, _, _, _, HJ.out, by go_num, N1, Y3, C3⟩
              case measure => have := HJ.out; simp [intOf]; omega
            · have hex : (j : Int) < nn ∧ ¬ (j : Int) < 40 ∨ ¬ (j : Int) < nn := by omega
              rcases hex with ⟨hx1, hx2⟩ | hx1
              all_goals (
                clear hgo
                go_wp2_with fail
                obtain ⟨Ay, cy, hyc⟩ := Y.out.ycell
                have hS : Aside0 (∀ W', Below wr.heap.size wr W' → W'.cell? ⟨y, 3, none⟩ = some (.slice Ay bs.length cy) ∧ W'.cell? ⟨y, 1, none⟩ = some (.int .u32 pc)) := ⟨hyc⟩
                have hS0 := hS.out wr (Below.refl _ _)
                clear hyc
                go_region_held3 (fun W' => W'.cell? ⟨y, 3, none⟩ = some (.slice Ay bs.length cy) ∧ W'.cell? ⟨y, 1, none⟩ = some (.int .u32 pc))
                  (first | exact hS.out _ (by assumption) | exact hS.out _ ((Below.refl _ _).drew))
                  (first
                  | (go_at_call 26; (with_reducible refine (ys_len (Y.out.then ((Below.refl _ _).drew))).mono ?_); rintro e w' ⟨rfl, rfl⟩)
                  | (go_at_call 26; (with_reducible refine (nq_len _).mono ?_); rintro e w' ⟨rfl, rfl⟩)
                  | (go_at_call 27; (with_reducible refine (ys_next (Y.out.then ((Below.refl _ _).drew))).mono ?_); rintro e w' ⟨rfl, rfl⟩)
                  | (go_at_call 27; (with_reducible refine (nq_next _).mono ?_); rintro e w' ⟨rfl, rfl⟩))
                all_goals (
                  go_wp2
                  go_roundw
                  case rel => exact ⟨i + 1, HI.out, by go_num, ⟨_, _, _, _, _, _, _, ⟨I.out.1, I.out.2.1, I.out.2.2⟩, Y.out.then ((Below.refl _ _).drew)⟩⟩
                  case measure => have := HI.out; simp [intOf]; omega))
      have k0 : (kd == 0) = false := beq_eq_false_iff_ne.mpr hk0
      by_cases hk1 : kd = 1
      · subst hk1
        as_aux_lemma =>
          go_wp2_with fail
          clear d0 d1 d2 d3 d4 d5 d6 d7 d8 d9 Y0
          generalize wr.alloc (.cells #[.int .i64 (1 : Int), .int .i64 nn, .int .u32 va, .int .u32 x, .bool uu, .int .u32 t1, .int .u32 t2, .int .u32 t3, .int .u32 t4, .int .u32 t5] 85) = wb at *
          generalize wr.heap.size = bx at *
          have HY := sd Y1.out.ylt
          have e0 := cell_of_row _ _ 0 _ _ _ C1.out
          have e1 := cell_of_row _ _ 1 _ _ _ C1.out
          have e2 := cell_of_row _ _ 2 _ _ _ C1.out
          have e3 := cell_of_row _ _ 3 _ _ _ C1.out
          have e4 := cell_of_row _ _ 4 _ _ _ C1.out
          have e5 := cell_of_row _ _ 5 _ _ _ C1.out
          have e6 := cell_of_row _ _ 6 _ _ _ C1.out
          have e7 := cell_of_row _ _ 7 _ _ _ C1.out
          have e8 := cell_of_row _ _ 8 _ _ _ C1.out
          have e9 := cell_of_row _ _ 9 _ _ _ C1.out
          simp only [gA, gB, gC] at e0 e1 e2 e3 e4 e5 e6 e7 e8 e9
          have TN := sd (fun W' (m : Int) => (show Calls Try.prog 25 #[.pointer none, .int .i64 m] W' fun e w' => e = .returned (.tuple #[.slice none 0 0, .agg #[.int .i64 0, .int .u32 0, .int .u32 0], .bool false]) ∧ Below W'.heap.size W' w' from nq_take W' m))
          by_cases hoff : nn < 0 ∨ 16 < nn
          · have TQ := sd (fun W' => (show Calls Try.prog 25 #[.pointer (some ⟨q, 0, none⟩), .int .i64 nn] W' fun e w' => e = .returned (.tuple #[.slice none 0 0, .agg #[.int .i64 0, .int .u32 0, .int .u32 0], .bool false]) ∧ Below W'.heap.size W' w' from take_off W' q nn hoff))
            have TY := sd (fun W' => (show Calls Try.prog 43 #[.pointer (some ⟨y, 0, none⟩), .int .i64 nn] W' fun e w' => e = .returned (.tuple #[.slice none 0 0, .agg #[.int .i64 0, .int .u32 0, .int .u32 0], .bool false]) ∧ Below W'.heap.size W' w' from ytake_off W' y nn hoff))
            clear hoff
            have s8 := fun W => ST.out W [] 0 rfl none 0 (ReadsInt.nil _ _)
            go_wp2_with (first
              | (go_at_call 25; (with_reducible refine (TQ.out _).mono ?_); rintro e w2 ⟨rfl, hb2⟩; have K2 := sd (fun o => below_step hb2 (below_alloc (Below.refl w2.heap.size w2) o)); have q1 := fun o => cell_of_row (w2.alloc o) bx 1 _ _ _ (row_then C1.out (K2.out o)); simp only [gA, gB, gC] at q1; clear hb2 e0 e1 e2 e3 e4 e5 e6 e7 e8 e9)
              | (go_at_call 43; (with_reducible refine (TY.out _).mono ?_); rintro e w3 ⟨rfl, hb3⟩; have K3 := sd (fun o => below_step hb3 (below_alloc (Below.refl w3.heap.size w3) o)); have q2 := fun o => cell_of_row (w3.alloc o) bx 1 _ _ _ (row_then (row_then C1.out (K2.out _)) (K3.out o)); simp only [gA, gB, gC] at q2; clear hb3)
              | (go_at_call 25; (with_reducible refine (TN.out _ nn).mono ?_); rintro e w4 ⟨rfl, hb4⟩; have K4 := sd (fun o => below_step hb4 (below_alloc (Below.refl w4.heap.size w4) o)); have z2 := fun o j => cell_of_row (w4.alloc o) w2.heap.size j _ _ _ (row_then (row_then (heap_alloc_new w2 _) (K3.out _)) (K4.out o)); have z3 := fun o j => cell_of_row (w4.alloc o) w3.heap.size j _ _ _ (row_then (heap_alloc_new w3 _) (K4.out o)); clear hb4))
            have Y5 := sd (Y1.out.then (below_step (K2.out (.cells #[.int .i64 0, .int .u32 0, .int .u32 0] 47)) (below_step (K3.out (.cells #[.int .i64 0, .int .u32 0, .int .u32 0] 47)) (K4.out (.cells #[.int .i64 0, .int .u32 0, .int .u32 0] 47)))))
            clear z2 z3 s8
            generalize w4.alloc (.cells #[.int .i64 0, .int .u32 0, .int .u32 0] 47) = w5 at *
            obtain ⟨Ay, cy, hyc⟩ := Y5.out.ycell
            have hS : Aside0 (∀ W', Below w5.heap.size w5 W' → W'.cell? ⟨y, 3, none⟩ = some (.slice Ay bs.length cy) ∧ W'.cell? ⟨y, 1, none⟩ = some (.int .u32 pc)) := ⟨hyc⟩
            have hS0 := hS.out w5 (Below.refl _ _)
            clear hyc
            go_region_held3 (fun W' => W'.cell? ⟨y, 3, none⟩ = some (.slice Ay bs.length cy) ∧ W'.cell? ⟨y, 1, none⟩ = some (.int .u32 pc))
              (first | exact hS.out _ (by assumption) | exact hS.out _ ((Below.refl _ _).drew))
              (first
              | (go_at_call 26; (with_reducible refine (ys_len (Y5.out.then ((Below.refl _ _).drew))).mono ?_); rintro e w' ⟨rfl, rfl⟩)
              | (go_at_call 26; (with_reducible refine (nq_len _).mono ?_); rintro e w' ⟨rfl, rfl⟩)
              | (go_at_call 27; (with_reducible refine (ys_next (Y5.out.then ((Below.refl _ _).drew))).mono ?_); rintro e w' ⟨rfl, rfl⟩)
              | (go_at_call 27; (with_reducible refine (nq_next _).mono ?_); rintro e w' ⟨rfl, rfl⟩))
            all_goals (
              go_wp2
              go_roundw
              case rel => exact ⟨i + 1, HI.out, by go_num, ⟨_, _, _, _, _, _, _, ⟨PCC.out, GF.out, hbl⟩, Y5.out.then ((Below.refl _ _).drew)⟩⟩
              case measure => have := HI.out; simp [intOf]; omega)
          obtain ⟨n, rfl⟩ : ∃ n : Nat, nn = n := ⟨nn.toNat, by omega⟩
          have hn16 : (n : Int) ≤ 16 := by omega
          have hn0 : ¬ (n : Int) < 0 := by omega
          clear hoff
          by_cases hh : n ≤ bs.length
          · have TQ := sd (ys_have n Y1.out hh hbl)
            have TY := sd (fun W' (pq : Int) (bq : List Int) (fq : Flt) (h : YS w0 W' L RL T1 ps l1 T1 ps l1 q pq u bq fq y pc u bs f) => ys_yhave n h hh hbl)
            have TL := sd (show (bs.take n).length = n by rw [List.length_take]; omega)
            have DL := sd (show (bs.drop n).length ≤ 16 by rw [List.length_drop]; omega)
            go_wp2_with (first
              | (go_at_call 25; (with_reducible refine (TQ.out).mono ?_); rintro e w2 ⟨A2, c2, rfl, o2, ys2, kb2⟩; have Y2 := sd (fun o => ys2.then (below_alloc (Below.refl w2.heap.size w2) o)); have C2 := sd (fun o => row_then (kc kb2 C1.out) (below_alloc (Below.refl w2.heap.size w2) o)); have O2 := sd (fun o => own_then o2 (below_alloc (Below.refl w2.heap.size w2) o)); have q1 := fun o => cell_of_row (w2.alloc o) bx 1 _ _ _ (C2.out o); simp only [gA, gB, gC] at q1; clear o2 ys2 kb2 e0 e1 e2 e3 e4 e5 e6 e7 e8 e9)
              | (go_at_call 43; (with_reducible refine (TY.out _ _ _ _ (Y2.out _)).mono ?_); rintro e w3 ⟨A3, c3, rfl, r3, ys3, kb3, ch3⟩; have Y3 := sd (fun o => ys3.then (below_alloc (Below.refl w3.heap.size w3) o)); have C3 := sd (fun o => row_then (kc kb3 (C2.out _)) (below_alloc (Below.refl w3.heap.size w3) o)); have X3 := sd (fun o => row_then (kb3 _ _ _ _ (heap_alloc_new w2 (.cells #[.int .i64 0, .int .u32 0, .int .u32 0] 47)) oTy_ffault.1 oTy_ffault.2.1 oTy_ffault.2.2) (below_alloc (Below.refl w3.heap.size w3) o)); have O3 := sd (fun o => own_then (own_keep (O2.out (.cells #[.int .i64 0, .int .u32 0, .int .u32 0] 47)) (fun i hi => ch3.block i (own_lt (O2.out _) i hi) (fun e => by have := own_base (O2.out (.cells #[.int .i64 0, .int .u32 0, .int .u32 0] 47)) i hi; have := HY.out; omega))) (below_alloc (Below.refl w3.heap.size w3) o)); have R3 := sd (fun o => r3.below (below_alloc (Below.refl w3.heap.size w3) o)); have q2 := fun o => cell_of_row (w3.alloc o) bx 1 _ _ _ (C3.out o); simp only [gA, gB, gC] at q2; clear r3 ys3 kb3 ch3)
              | (go_at_call 25; (with_reducible refine (TN.out _ n).mono ?_); rintro e w4 ⟨rfl, hb4⟩; have K4 := sd (fun o => below_step hb4 (below_alloc (Below.refl w4.heap.size w4) o)); have z2 := fun o j => cell_of_row (w4.alloc o) w2.heap.size j _ _ _ (row_then (X3.out _) (K4.out o)); have z3 := fun o j => cell_of_row (w4.alloc o) w3.heap.size j _ _ _ (row_then (heap_alloc_new w3 _) (K4.out o)); have s1 := fun o => ST.out (w4.alloc o) _ n TL.out _ c2 (own_reads' (own_then (O3.out _) (K4.out o))); have s2 := fun o => ST.out (w4.alloc o) _ n TL.out _ c3 ((R3.out _).below (K4.out o)); clear hb4))
            have Y5 := sd ((Y3.out (.cells #[.int .i64 0, .int .u32 0, .int .u32 0] 47)).then (K4.out (.cells #[.int .i64 0, .int .u32 0, .int .u32 0] 47)))
            clear z2 z3 s1 s2 q1 q2
            generalize w4.alloc (.cells #[.int .i64 0, .int .u32 0, .int .u32 0] 47) = w5 at *
            obtain ⟨Ay, cy, hyc⟩ := Y5.out.ycell
            have hS : Aside0 (∀ W', Below w5.heap.size w5 W' → W'.cell? ⟨y, 3, none⟩ = some (.slice Ay (bs.drop n).length cy) ∧ W'.cell? ⟨y, 1, none⟩ = some (.int .u32 pc)) := ⟨hyc⟩
            have hS0 := hS.out w5 (Below.refl _ _)
            clear hyc
            go_region_held3 (fun W' => W'.cell? ⟨y, 3, none⟩ = some (.slice Ay (bs.drop n).length cy) ∧ W'.cell? ⟨y, 1, none⟩ = some (.int .u32 pc))
              (first | exact hS.out _ (by assumption) | exact hS.out _ ((Below.refl _ _).drew))
              (first
              | (go_at_call 26; (with_reducible refine (ys_len (Y5.out.then ((Below.refl _ _).drew))).mono ?_); rintro e w' ⟨rfl, rfl⟩)
              | (go_at_call 26; (with_reducible refine (nq_len _).mono ?_); rintro e w' ⟨rfl, rfl⟩)
              | (go_at_call 27; (with_reducible refine (ys_next (Y5.out.then ((Below.refl _ _).drew))).mono ?_); rintro e w' ⟨rfl, rfl⟩)
              | (go_at_call 27; (with_reducible refine (nq_next _).mono ?_); rintro e w' ⟨rfl, rfl⟩))
            all_goals (
              go_wp2
              go_roundw
              case rel => exact ⟨i + 1, HI.out, by go_num, ⟨_, _, _, _, _, _, _, ⟨PCC.out, GF.out, DL.out⟩, Y5.out.then ((Below.refl _ _).drew)⟩⟩
              case measure => have := HI.out; simp [intOf]; omega)
          · obtain ⟨fk, fv, fi⟩ := f
            have TQ := sd (show Calls Try.prog 25 #[.pointer (some ⟨q, 0, none⟩), .int .i64 n] wb fun e w' => e = .returned (.tuple #[.slice none 0 0, .agg #[.int .i64 fk, .int .u32 fv, .int .u32 fi], .bool (fk != 0)]) ∧ Below wb.heap.size wb w' from ys_none n Y1.out (by omega) hn16)
            have TY := sd (fun W' (h : YS w0 W' L RL T1 ps l1 T1 ps l1 q pc u bs (fk, fv, fi) y pc u bs (fk, fv, fi)) => (show Calls Try.prog 43 #[.pointer (some ⟨y, 0, none⟩), .int .i64 n] W' fun e w' => e = .returned (.tuple #[.slice none 0 0, .agg #[.int .i64 fk, .int .u32 fv, .int .u32 fi], .bool (fk != 0)]) ∧ Below W'.heap.size W' w' from ys_ynone n h (by omega) hn16))
            clear hh
            have s8 := fun W => ST.out W [] 0 rfl none 0 (ReadsInt.nil _ _)
            go_wp2_with (first
              | (go_at_call 25; (with_reducible refine (TQ.out).mono ?_); rintro e w2 ⟨rfl, hb2⟩; have K2 := sd (fun o => below_step hb2 (below_alloc (Below.refl w2.heap.size w2) o)); have q1 := fun o => cell_of_row (w2.alloc o) bx 1 _ _ _ (row_then C1.out (K2.out o)); simp only [gA, gB, gC] at q1; clear hb2 e0 e1 e2 e3 e4 e5 e6 e7 e8 e9)
              | (go_at_call 43; (with_reducible refine (TY.out _ (Y1.out.then (K2.out _))).mono ?_); rintro e w3 ⟨rfl, hb3⟩; have K3 := sd (fun o => below_step hb3 (below_alloc (Below.refl w3.heap.size w3) o)); have q2 := fun o => cell_of_row (w3.alloc o) bx 1 _ _ _ (row_then (row_then C1.out (K2.out _)) (K3.out o)); simp only [gA, gB, gC] at q2; clear hb3)
              | (go_at_call 25; (with_reducible refine (TN.out _ n).mono ?_); rintro e w4 ⟨rfl, hb4⟩; have K4 := sd (fun o => below_step hb4 (below_alloc (Below.refl w4.heap.size w4) o)); have z2 := fun o j => cell_of_row (w4.alloc o) w2.heap.size j _ _ _ (row_then (row_then (heap_alloc_new w2 _) (K3.out _)) (K4.out o)); have z3 := fun o j => cell_of_row (w4.alloc o) w3.heap.size j _ _ _ (row_then (heap_alloc_new w3 _) (K4.out o)); clear hb4))
            have Y5 := sd (Y1.out.then (below_step (K2.out (.cells #[.int .i64 fk, .int .u32 fv, .int .u32 fi] 47)) (below_step (K3.out (.cells #[.int .i64 fk, .int .u32 fv, .int .u32 fi] 47)) (K4.out (.cells #[.int .i64 0, .int .u32 0, .int .u32 0] 47)))))
            clear z2 z3 s8
            generalize w4.alloc (.cells #[.int .i64 0, .int .u32 0, .int .u32 0] 47) = w5 at *
            obtain ⟨Ay, cy, hyc⟩ := Y5.out.ycell
            have hS : Aside0 (∀ W', Below w5.heap.size w5 W' → W'.cell? ⟨y, 3, none⟩ = some (.slice Ay bs.length cy) ∧ W'.cell? ⟨y, 1, none⟩ = some (.int .u32 pc)) := ⟨hyc⟩
            have hS0 := hS.out w5 (Below.refl _ _)
            clear hyc
            go_region_held3 (fun W' => W'.cell? ⟨y, 3, none⟩ = some (.slice Ay bs.length cy) ∧ W'.cell? ⟨y, 1, none⟩ = some (.int .u32 pc))
              (first | exact hS.out _ (by assumption) | exact hS.out _ ((Below.refl _ _).drew))
              (first
              | (go_at_call 26; (with_reducible refine (ys_len (Y5.out.then ((Below.refl _ _).drew))).mono ?_); rintro e w' ⟨rfl, rfl⟩)
              | (go_at_call 26; (with_reducible refine (nq_len _).mono ?_); rintro e w' ⟨rfl, rfl⟩)
              | (go_at_call 27; (with_reducible refine (ys_next (Y5.out.then ((Below.refl _ _).drew))).mono ?_); rintro e w' ⟨rfl, rfl⟩)
              | (go_at_call 27; (with_reducible refine (nq_next _).mono ?_); rintro e w' ⟨rfl, rfl⟩))
            all_goals (
              go_wp2
              go_roundw
              case rel => exact ⟨i + 1, HI.out, by go_num, ⟨_, _, _, _, _, _, _, ⟨PCC.out, GF.out, hbl⟩, Y5.out.then ((Below.refl _ _).drew)⟩⟩
              case measure => have := HI.out; simp [intOf]; omega)
      have k1 : (kd == 1) = false := beq_eq_false_iff_ne.mpr hk1
      by_cases hk2 : kd = 2
      · subst hk2
        go_wp2_with fail
        clear d0 d1 d2 d3 d4 d5 d6 d7 d8 d9 Y0
        generalize wr.alloc (.cells #[.int .i64 (2 : Int), .int .i64 nn, .int .u32 va, .int .u32 x, .bool uu, .int .u32 t1, .int .u32 t2, .int .u32 t3, .int .u32 t4, .int .u32 t5] 85) = wb at *
        generalize wr.heap.size = bx at *
        have HY := sd Y1.out.ylt
        have e0 := cell_of_row _ _ 0 _ _ _ C1.out
        have e1 := cell_of_row _ _ 1 _ _ _ C1.out
        have e2 := cell_of_row _ _ 2 _ _ _ C1.out
        have e3 := cell_of_row _ _ 3 _ _ _ C1.out
        have e4 := cell_of_row _ _ 4 _ _ _ C1.out
        have e5 := cell_of_row _ _ 5 _ _ _ C1.out
        have e6 := cell_of_row _ _ 6 _ _ _ C1.out
        have e7 := cell_of_row _ _ 7 _ _ _ C1.out
        have e8 := cell_of_row _ _ 8 _ _ _ C1.out
        have e9 := cell_of_row _ _ 9 _ _ _ C1.out
        simp only [gA, gB, gC] at e0 e1 e2 e3 e4 e5 e6 e7 e8 e9
        have FQ := sd (ys_flush va uu Y1.out)
        go_wp2_with (first
          | (go_at_call 22; (with_reducible refine (FQ.out).mono ?_); rintro e w2 ⟨rfl, ys2, kb2⟩; have Y2 := sd ys2; have C2 := sd (kc kb2 C1.out); clear e0 e1 e2 e3 e4 e5 e6 e7 e8 e9; have e2 := cell_of_row _ _ 2 _ _ _ C2.out; have e4 := cell_of_row _ _ 4 _ _ _ C2.out; simp only [gA, gB, gC] at e2 e4; obtain ⟨v5, vp5, ve5, vb5, yb5, hy5⟩ := ys2; have y0 := hy5.ya.cell 0; have g0 := hy5.ya.free 0; have y1 := hy5.ya.cell 1; have g1 := hy5.ya.free 1; have y2 := hy5.ya.cell 2; have g2 := hy5.ya.free 2; have y3 := hy5.ya.cell 3; have g3 := hy5.ya.free 3; have y4 := hy5.ya.cell 4; have g4 := hy5.ya.free 4; have y5 := hy5.ya.cell 5; have g5 := hy5.ya.free 5; have y6 := hy5.ya.cell 6; have g6 := hy5.ya.free 6; simp only [qCells, List.getElem?_toArray, List.getElem?_cons_zero, List.getElem?_cons_succ] at y0 y1 y2 y3 y4 y5 y6; have P7 := sd (ys_put7 va uu Y2.out); have p2 : World.cell? (((((((w2.setCell ⟨y, 0, none⟩ (.pointer (some ⟨RL.m, 0, none⟩))).setCell ⟨y, 1, none⟩ (.int .u32 va)).setCell ⟨y, 2, none⟩ (.bool uu)).setCell ⟨y, 3, none⟩ (.slice none 0 0)).setCell ⟨y, 4, none⟩ (.int .i64 0)).setCell ⟨y, 5, none⟩ (.int .u32 0)).setCell ⟨y, 6, none⟩ (.int .u32 0)) ⟨bx, 2, none⟩ = some (.int .u32 va) := cell_of_row _ _ 2 _ _ _ (P7.out.2 _ _ _ _ C2.out oTy_fcall.1 oTy_fcall.2.1 oTy_fcall.2.2); have p4 : World.cell? (((((((w2.setCell ⟨y, 0, none⟩ (.pointer (some ⟨RL.m, 0, none⟩))).setCell ⟨y, 1, none⟩ (.int .u32 va)).setCell ⟨y, 2, none⟩ (.bool uu)).setCell ⟨y, 3, none⟩ (.slice none 0 0)).setCell ⟨y, 4, none⟩ (.int .i64 0)).setCell ⟨y, 5, none⟩ (.int .u32 0)).setCell ⟨y, 6, none⟩ (.int .u32 0)) ⟨bx, 4, none⟩ = some (.bool uu) := cell_of_row _ _ 4 _ _ _ (P7.out.2 _ _ _ _ C2.out oTy_fcall.1 oTy_fcall.2.1 oTy_fcall.2.2); clear hy5 kb2)
          | (go_at_call 22; (with_reducible refine (nq_flush _ va uu).mono ?_); rintro e w4 ⟨rfl, rfl⟩))
        clear e2 e4 y0 g0 y1 g1 y2 g2 y3 g3 y4 g4 y5 g5 y6 g6 p2 p4
        have Y3 := sd (show YS w0 (((((((w2.setCell ⟨y, 0, none⟩ (.pointer (some ⟨RL.m, 0, none⟩))).setCell ⟨y, 1, none⟩ (.int .u32 va)).setCell ⟨y, 2, none⟩ (.bool uu)).setCell ⟨y, 3, none⟩ (.slice none 0 0)).setCell ⟨y, 4, none⟩ (.int .i64 0)).setCell ⟨y, 5, none⟩ (.int .u32 0)).setCell ⟨y, 6, none⟩ (.int .u32 0)) L RL T1 ps l1 T1 ps l1 q va uu [] noF y va uu [] noF from P7.out.1)
        clear P7
        generalize ((((((w2.setCell ⟨y, 0, none⟩ (.pointer (some ⟨RL.m, 0, none⟩))).setCell ⟨y, 1, none⟩ (.int .u32 va)).setCell ⟨y, 2, none⟩ (.bool uu)).setCell ⟨y, 3, none⟩ (.slice none 0 0)).setCell ⟨y, 4, none⟩ (.int .i64 0)).setCell ⟨y, 5, none⟩ (.int .u32 0)).setCell ⟨y, 6, none⟩ (.int .u32 0) = w5 at *
        obtain ⟨Ay, cy, hyc⟩ := Y3.out.ycell
        have hS : Aside0 (∀ W', Below w5.heap.size w5 W' → W'.cell? ⟨y, 3, none⟩ = some (.slice Ay ([] : List Int).length cy) ∧ W'.cell? ⟨y, 1, none⟩ = some (.int .u32 va)) := ⟨hyc⟩
        have hS0 := hS.out w5 (Below.refl _ _)
        clear hyc
        go_region_held3 (fun W' => W'.cell? ⟨y, 3, none⟩ = some (.slice Ay ([] : List Int).length cy) ∧ W'.cell? ⟨y, 1, none⟩ = some (.int .u32 va))
          (first | exact hS.out _ (by assumption) | exact hS.out _ ((Below.refl _ _).drew))
          (first
          | (go_at_call 26; (with_reducible refine (ys_len (Y3.out.then ((Below.refl _ _).drew))).mono ?_); rintro e w' ⟨rfl, rfl⟩)
          | (go_at_call 26; (with_reducible refine (nq_len _).mono ?_); rintro e w' ⟨rfl, rfl⟩)
          | (go_at_call 27; (with_reducible refine (ys_next (Y3.out.then ((Below.refl _ _).drew))).mono ?_); rintro e w' ⟨rfl, rfl⟩)
          | (go_at_call 27; (with_reducible refine (nq_next _).mono ?_); rintro e w' ⟨rfl, rfl⟩))
        all_goals (
          go_wp2
          go_roundw
          case rel => exact ⟨i + 1, HI.out, by go_num, ⟨_, _, _, _, _, _, _, ⟨OK.out.va, fun _ => rfl, Nat.zero_le _⟩, Y3.out.then ((Below.refl _ _).drew)⟩⟩
          case measure => have := HI.out; simp [intOf]; omega)
      have k2 : (kd == 2) = false := beq_eq_false_iff_ne.mpr hk2
      by_cases hk3 : kd = 3
      · subst hk3
        as_aux_lemma =>
          go_wp2_with fail
          clear d0 d1 d2 d3 d4 d5 d6 d7 d8 d9 Y0
          generalize wr.alloc (.cells #[.int .i64 (3 : Int), .int .i64 nn, .int .u32 va, .int .u32 x, .bool uu, .int .u32 t1, .int .u32 t2, .int .u32 t3, .int .u32 t4, .int .u32 t5] 85) = wb at *
          generalize wr.heap.size = bx at *
          have HY := sd Y1.out.ylt
          have e0 := cell_of_row _ _ 0 _ _ _ C1.out
          have e1 := cell_of_row _ _ 1 _ _ _ C1.out
          have e2 := cell_of_row _ _ 2 _ _ _ C1.out
          have e3 := cell_of_row _ _ 3 _ _ _ C1.out
          have e4 := cell_of_row _ _ 4 _ _ _ C1.out
          have e5 := cell_of_row _ _ 5 _ _ _ C1.out
          have e6 := cell_of_row _ _ 6 _ _ _ C1.out
          have e7 := cell_of_row _ _ 7 _ _ _ C1.out
          have e8 := cell_of_row _ _ 8 _ _ _ C1.out
          have e9 := cell_of_row _ _ 9 _ _ _ C1.out
          simp only [gA, gB, gC] at e0 e1 e2 e3 e4 e5 e6 e7 e8 e9
          have PA := sd (ys_rput va x OK.out.va OK.out.x Y1.out)
          have PB := sd (fun W' (lq : List Int) (h : YS w0 W' L RL T1 ps lq T1 ps l1 q pc u bs f y pc u bs f) => ys_nput va x OK.out.va OK.out.x h)
          generalize rP l1 va x = l2 at *
          go_wp2_with (first
            | (go_at_call 39; (with_reducible refine (PA.out).mono ?_); rintro e w2 ⟨ca, rfl, ys2, kb2⟩; have Y2 := sd ys2; have C2 := sd (kc kb2 C1.out); clear e0 e1 e2 e3 e4 e5 e6 e7 e8 e9; have e2 := cell_of_row _ _ 2 _ _ _ C2.out; have e3 := cell_of_row _ _ 3 _ _ _ C2.out; simp only [gA, gB, gC] at e2 e3; clear ys2 kb2)
            | (go_at_call 44; (with_reducible refine (PB.out _ _ Y2.out).mono ?_); rintro e w3 ⟨cb, rfl, ys3, kb3⟩; have Y3 := sd ys3; clear ys3 kb3 e2 e3))
          obtain ⟨Ay, cy, hyc⟩ := Y3.out.ycell
          have hS : Aside0 (∀ W', Below w3.heap.size w3 W' → W'.cell? ⟨y, 3, none⟩ = some (.slice Ay bs.length cy) ∧ W'.cell? ⟨y, 1, none⟩ = some (.int .u32 pc)) := ⟨hyc⟩
          have hS0 := hS.out w3 (Below.refl _ _)
          clear hyc
          go_region_held3 (fun W' => W'.cell? ⟨y, 3, none⟩ = some (.slice Ay bs.length cy) ∧ W'.cell? ⟨y, 1, none⟩ = some (.int .u32 pc))
            (first | exact hS.out _ (by assumption) | exact hS.out _ ((Below.refl _ _).drew))
            (first
            | (go_at_call 26; (with_reducible refine (ys_len (Y3.out.then ((Below.refl _ _).drew))).mono ?_); rintro e w' ⟨rfl, rfl⟩)
            | (go_at_call 26; (with_reducible refine (nq_len _).mono ?_); rintro e w' ⟨rfl, rfl⟩)
            | (go_at_call 27; (with_reducible refine (ys_next (Y3.out.then ((Below.refl _ _).drew))).mono ?_); rintro e w' ⟨rfl, rfl⟩)
            | (go_at_call 27; (with_reducible refine (nq_next _).mono ?_); rintro e w' ⟨rfl, rfl⟩))
          all_goals (
            go_wp2
            go_roundw
            case rel => exact ⟨i + 1, HI.out, by go_num, ⟨_, _, _, _, _, _, _, ⟨PCC.out, GF.out, hbl⟩, Y3.out.then ((Below.refl _ _).drew)⟩⟩
            case measure => have := HI.out; simp [intOf]; omega)
      have k3 : (kd == 3) = false := beq_eq_false_iff_ne.mpr hk3
      by_cases hk4 : kd = 4
      · subst hk4
        as_aux_lemma =>
          go_wp2_with fail
          clear d0 d1 d2 d3 d4 d5 d6 d7 d8 d9 Y0
          generalize wr.alloc (.cells #[.int .i64 (4 : Int), .int .i64 nn, .int .u32 va, .int .u32 x, .bool uu, .int .u32 t1, .int .u32 t2, .int .u32 t3, .int .u32 t4, .int .u32 t5] 85) = wb at *
          generalize wr.heap.size = bx at *
          have HY := sd Y1.out.ylt
          have e0 := cell_of_row _ _ 0 _ _ _ C1.out
          have e1 := cell_of_row _ _ 1 _ _ _ C1.out
          have e2 := cell_of_row _ _ 2 _ _ _ C1.out
          have e3 := cell_of_row _ _ 3 _ _ _ C1.out
          have e4 := cell_of_row _ _ 4 _ _ _ C1.out
          have e5 := cell_of_row _ _ 5 _ _ _ C1.out
          have e6 := cell_of_row _ _ 6 _ _ _ C1.out
          have e7 := cell_of_row _ _ 7 _ _ _ C1.out
          have e8 := cell_of_row _ _ 8 _ _ _ C1.out
          have e9 := cell_of_row _ _ 9 _ _ _ C1.out
          simp only [gA, gB, gC] at e0 e1 e2 e3 e4 e5 e6 e7 e8 e9
          obtain ⟨xs, ⟨fk, fv, fi⟩, ps1, p⟩ := Pcs.ex T1 l1 false true true _ ps va (szI 4) (Nat.le_refl _)
          have PA := sd (ys_mput va x OK.out.va OK.out.x xs fk fv fi ps1 p Y1.out)
          have PB := sd (fun W' W2 (A : Option Addr) (c : Nat) (lq : List Int) (pq : List (Int × Int)) (h : YS w0 W' L RL T1 pq lq T1 ps l1 q pc u bs f y pc u bs f) (b : Below W'.heap.size W' W2) (ho : W2.ownsRow W'.heap.size 5 1 (.slice A (szI 4).toNat c) (szI 4).toNat (nums .u8 (byL x (szI 4).toNat))) => ys_xstore va x OK.out.va xs fk fv fi ps1 p h b ho)
          have BC := sd (fun W' => rbytes_call W' x 4 OK.out.x)
          generalize storeP T1 xs fk ps1 l1 = ps2 at *
          generalize storeL T1 xs fk ps1 l1 (byL x (szI 4).toNat) = l2 at *
          generalize (szI 4).toNat = s4 at *
          go_wp2_with (first
            | (go_at_call 40; (with_reducible refine (PA.out).mono ?_); rintro e w2 ⟨rfl, ys2, kb2⟩; have Y2 := sd ys2; have C2 := sd (kc kb2 C1.out); clear e0 e1 e2 e3 e4 e5 e6 e7 e8 e9; clear ys2 kb2))
          have hS : Aside0 (∀ W', Below w2.heap.size w2 W' → W'.cell? ⟨bx, 2, none⟩ = some (.int .u32 va) ∧ W'.cell? ⟨bx, 3, none⟩ = some (.int .u32 x)) := ⟨fun W' hW => ⟨cell_of_row _ _ 2 _ _ _ (row_then C2.out hW), cell_of_row _ _ 3 _ _ _ (row_then C2.out hW)⟩⟩
          have hS0 := hS.out w2 (Below.refl _ _)
          go_region_held3 (fun W' => W'.cell? ⟨bx, 2, none⟩ = some (.int .u32 va) ∧ W'.cell? ⟨bx, 3, none⟩ = some (.int .u32 x))
            (first | exact hS.out _ (by assumption) | exact hS.out _ ((Below.refl _ _).drew) | exact hS.out _ B3.out | exact hS4.out)
            (first
            | (go_at_call 46; (with_reducible refine (BC.out _).mono ?_); rintro e w3 ⟨A3, c3, rfl, o3, hb3⟩; have B3 := sd (below_step ((Below.refl w2.heap.size w2).drew) hb3); have O3 := sd o3; have B3D := sd hb3; clear o3 hb3)
            | (go_at_call 45; (with_reducible refine (PB.out _ _ A3 c3 _ _ (Y2.out.then ((Below.refl _ _).drew)) B3D.out O3.out).mono ?_); rintro e w4 ⟨rfl, ys4, kb4⟩; have Y4 := sd ys4; have hS4 : Aside0 (w4.cell? ⟨bx, 2, none⟩ = some (.int .u32 va) ∧ w4.cell? ⟨bx, 3, none⟩ = some (.int .u32 x)) := ⟨⟨cell_of_row _ _ 2 _ _ _ (kc kb4 (row_then C2.out B3.out)), cell_of_row _ _ 3 _ _ _ (kc kb4 (row_then C2.out B3.out))⟩⟩; clear ys4 kb4))
          clear hS hS0 hS4
          go_wp2_with fail
          obtain ⟨Ay, cy, hyc⟩ := Y4.out.ycell
          have hS : Aside0 (∀ W', Below w4.heap.size w4 W' → W'.cell? ⟨y, 3, none⟩ = some (.slice Ay bs.length cy) ∧ W'.cell? ⟨y, 1, none⟩ = some (.int .u32 pc)) := ⟨hyc⟩
          have hS0 := hS.out w4 (Below.refl _ _)
          clear hyc
          go_region_held3 (fun W' => W'.cell? ⟨y, 3, none⟩ = some (.slice Ay bs.length cy) ∧ W'.cell? ⟨y, 1, none⟩ = some (.int .u32 pc))
            (first | exact hS.out _ (by assumption) | exact hS.out _ ((Below.refl _ _).drew))
            (first
            | (go_at_call 26; (with_reducible refine (ys_len (Y4.out.then ((Below.refl _ _).drew))).mono ?_); rintro e w' ⟨rfl, rfl⟩)
            | (go_at_call 26; (with_reducible refine (nq_len _).mono ?_); rintro e w' ⟨rfl, rfl⟩)
            | (go_at_call 27; (with_reducible refine (ys_next (Y4.out.then ((Below.refl _ _).drew))).mono ?_); rintro e w' ⟨rfl, rfl⟩)
            | (go_at_call 27; (with_reducible refine (nq_next _).mono ?_); rintro e w' ⟨rfl, rfl⟩))
          all_goals (
            go_wp2
            go_roundw
            case rel => exact ⟨i + 1, HI.out, by go_num, ⟨_, _, _, _, _, _, _, ⟨PCC.out, GF.out, hbl⟩, Y4.out.then ((Below.refl _ _).drew)⟩⟩
            case measure => have := HI.out; simp [intOf]; omega)
      have k4 : (kd == 4) = false := beq_eq_false_iff_ne.mpr hk4
      by_cases hk5 : kd = 5
      · subst hk5
        as_aux_lemma =>
          go_wp2_with fail
          clear d0 d1 d2 d3 d4 d5 d6 d7 d8 d9 Y0
          generalize wr.alloc (.cells #[.int .i64 (5 : Int), .int .i64 nn, .int .u32 va, .int .u32 x, .bool uu, .int .u32 t1, .int .u32 t2, .int .u32 t3, .int .u32 t4, .int .u32 t5] 85) = wb at *
          generalize wr.heap.size = bx at *
          have HY := sd Y1.out.ylt
          have e0 := cell_of_row _ _ 0 _ _ _ C1.out
          have e1 := cell_of_row _ _ 1 _ _ _ C1.out
          have e2 := cell_of_row _ _ 2 _ _ _ C1.out
          have e3 := cell_of_row _ _ 3 _ _ _ C1.out
          have e4 := cell_of_row _ _ 4 _ _ _ C1.out
          have e5 := cell_of_row _ _ 5 _ _ _ C1.out
          have e6 := cell_of_row _ _ 6 _ _ _ C1.out
          have e7 := cell_of_row _ _ 7 _ _ _ C1.out
          have e8 := cell_of_row _ _ 8 _ _ _ C1.out
          have e9 := cell_of_row _ _ 9 _ _ _ C1.out
          simp only [gA, gB, gC] at e0 e1 e2 e3 e4 e5 e6 e7 e8 e9
          have PA := sd (ys_set (⟨t1, t2, t3, t4, t5⟩ : Tabs) OK.out.T Y1.out)
          go_wp2_with (first
            | (go_at_call 20; (with_reducible refine (PA.out).mono ?_); rintro e w2 ⟨rfl, ys2, kb2⟩; have Y2 := sd ys2; have C2 := sd (kc kb2 C1.out); clear e0 e1 e2 e3 e4 e5 e6 e7 e8 e9; have e5 := cell_of_row _ _ 5 _ _ _ C2.out; have e6 := cell_of_row _ _ 6 _ _ _ C2.out; have e7 := cell_of_row _ _ 7 _ _ _ C2.out; have e8 := cell_of_row _ _ 8 _ _ _ C2.out; have e9 := cell_of_row _ _ 9 _ _ _ C2.out; simp only [gA, gB, gC] at e5 e6 e7 e8 e9; obtain ⟨v5, vp5, ve5, vb5, yb5, hy5⟩ := ys2; have y2 := hy5.fu.du.r.cell 2; have g2 := hy5.fu.du.r.free 2; have y3 := hy5.fu.du.r.cell 3; have g3 := hy5.fu.du.r.free 3; have y4 := hy5.fu.du.r.cell 4; have g4 := hy5.fu.du.r.free 4; have y5 := hy5.fu.du.r.cell 5; have g5 := hy5.fu.du.r.free 5; have y6 := hy5.fu.du.r.cell 6; have g6 := hy5.fu.du.r.free 6; simp only [rmCells, List.getElem?_toArray, List.getElem?_cons_zero, List.getElem?_cons_succ] at y2 y3 y4 y5 y6; have P5 := sd (show YS w0 (((((w2.setCell ⟨RL.m, 2, none⟩ (.int .u32 t1)).setCell ⟨RL.m, 3, none⟩ (.int .u32 t2)).setCell ⟨RL.m, 4, none⟩ (.int .u32 t3)).setCell ⟨RL.m, 5, none⟩ (.int .u32 t4)).setCell ⟨RL.m, 6, none⟩ (.int .u32 t5)) L RL (⟨t1, t2, t3, t4, t5⟩ : Tabs) [] l1 (⟨t1, t2, t3, t4, t5⟩ : Tabs) ps l1 q pc u bs f y pc u bs f from (ys_put5 (⟨t1, t2, t3, t4, t5⟩ : Tabs) OK.out.T Y2.out).1); have p1 : World.cell? (((((w2.setCell ⟨RL.m, 2, none⟩ (.int .u32 t1)).setCell ⟨RL.m, 3, none⟩ (.int .u32 t2)).setCell ⟨RL.m, 4, none⟩ (.int .u32 t3)).setCell ⟨RL.m, 5, none⟩ (.int .u32 t4)).setCell ⟨RL.m, 6, none⟩ (.int .u32 t5)) ⟨RL.m, 1, none⟩ = some (.pointer (some ⟨RL.t, 0, none⟩)) := (by obtain ⟨v6, vp6, ve6, vb6, yb6, hy6⟩ := P5.out; exact hy6.fu.du.r.cell 1); clear hy5 kb2)
            | (go_at_call 47; (with_reducible refine (ys_clear P5.out).mono ?_); rintro e w4 ⟨rfl, ys4, kb4⟩; have Y4 := sd ys4; clear ys4 kb4))
          clear e5 e6 e7 e8 e9 y2 g2 y3 g3 y4 g4 y5 g5 y6 g6 p1 P5
          obtain ⟨Ay, cy, hyc⟩ := Y4.out.ycell
          have hS : Aside0 (∀ W', Below w4.heap.size w4 W' → W'.cell? ⟨y, 3, none⟩ = some (.slice Ay bs.length cy) ∧ W'.cell? ⟨y, 1, none⟩ = some (.int .u32 pc)) := ⟨hyc⟩
          have hS0 := hS.out w4 (Below.refl _ _)
          clear hyc
          go_region_held3 (fun W' => W'.cell? ⟨y, 3, none⟩ = some (.slice Ay bs.length cy) ∧ W'.cell? ⟨y, 1, none⟩ = some (.int .u32 pc))
            (first | exact hS.out _ (by assumption) | exact hS.out _ ((Below.refl _ _).drew))
            (first
            | (go_at_call 26; (with_reducible refine (ys_len (Y4.out.then ((Below.refl _ _).drew))).mono ?_); rintro e w' ⟨rfl, rfl⟩)
            | (go_at_call 26; (with_reducible refine (nq_len _).mono ?_); rintro e w' ⟨rfl, rfl⟩)
            | (go_at_call 27; (with_reducible refine (ys_next (Y4.out.then ((Below.refl _ _).drew))).mono ?_); rintro e w' ⟨rfl, rfl⟩)
            | (go_at_call 27; (with_reducible refine (nq_next _).mono ?_); rintro e w' ⟨rfl, rfl⟩))
          all_goals (
            go_wp2
            go_roundw
            case rel => exact ⟨i + 1, HI.out, by go_num, ⟨_, _, _, _, _, _, _, ⟨PCC.out, GF.out, hbl⟩, Y4.out.then ((Below.refl _ _).drew)⟩⟩
            case measure => have := HI.out; simp [intOf]; omega)
      have k5 : (kd == 5) = false := beq_eq_false_iff_ne.mpr hk5
      · skip
        as_aux_lemma =>
          go_wp2_with fail
          clear d0 d1 d2 d3 d4 d5 d6 d7 d8 d9 Y0
          generalize wr.alloc (.cells #[.int .i64 kd, .int .i64 nn, .int .u32 va, .int .u32 x, .bool uu, .int .u32 t1, .int .u32 t2, .int .u32 t3, .int .u32 t4, .int .u32 t5] 85) = wb at *
          generalize wr.heap.size = bx at *
          have HY := sd Y1.out.ylt
          have e0 := cell_of_row _ _ 0 _ _ _ C1.out
          have e1 := cell_of_row _ _ 1 _ _ _ C1.out
          have e2 := cell_of_row _ _ 2 _ _ _ C1.out
          have e3 := cell_of_row _ _ 3 _ _ _ C1.out
          have e4 := cell_of_row _ _ 4 _ _ _ C1.out
          have e5 := cell_of_row _ _ 5 _ _ _ C1.out
          have e6 := cell_of_row _ _ 6 _ _ _ C1.out
          have e7 := cell_of_row _ _ 7 _ _ _ C1.out
          have e8 := cell_of_row _ _ 8 _ _ _ C1.out
          have e9 := cell_of_row _ _ 9 _ _ _ C1.out
          simp only [gA, gB, gC] at e0 e1 e2 e3 e4 e5 e6 e7 e8 e9
          clear e0 e1 e2 e3 e4 e5 e6 e7 e8 e9
          obtain ⟨Ay, cy, hyc⟩ := Y1.out.ycell
          have hS : Aside0 (∀ W', Below wb.heap.size wb W' → W'.cell? ⟨y, 3, none⟩ = some (.slice Ay bs.length cy) ∧ W'.cell? ⟨y, 1, none⟩ = some (.int .u32 pc)) := ⟨hyc⟩
          have hS0 := hS.out wb (Below.refl _ _)
          clear hyc
          go_region_held3 (fun W' => W'.cell? ⟨y, 3, none⟩ = some (.slice Ay bs.length cy) ∧ W'.cell? ⟨y, 1, none⟩ = some (.int .u32 pc))
            (first | exact hS.out _ (by assumption) | exact hS.out _ ((Below.refl _ _).drew))
            (first
            | (go_at_call 26; (with_reducible refine (ys_len (Y1.out.then ((Below.refl _ _).drew))).mono ?_); rintro e w' ⟨rfl, rfl⟩)
            | (go_at_call 26; (with_reducible refine (nq_len _).mono ?_); rintro e w' ⟨rfl, rfl⟩)
            | (go_at_call 27; (with_reducible refine (ys_next (Y1.out.then ((Below.refl _ _).drew))).mono ?_); rintro e w' ⟨rfl, rfl⟩)
            | (go_at_call 27; (with_reducible refine (nq_next _).mono ?_); rintro e w' ⟨rfl, rfl⟩))
          all_goals (
            go_wp2
            go_roundw
            case rel => exact ⟨i + 1, HI.out, by go_num, ⟨_, _, _, _, _, _, _, ⟨PCC.out, GF.out, hbl⟩, Y1.out.then ((Below.refl _ _).drew)⟩⟩
            case measure => have := HI.out; simp [intOf]; omega)
theorem FetchDoes_walk (a0 : Option Addr) (len0 cap0 : Nat) (z0 : List Int) (t1 t2 t3 t4 t5 : Int) (a2 : Option Addr) (len2 cap2 : Nat) (w : World) (w0 : IsRow .u8 w a0 len0 cap0 z0) (_ : len0 * 1 ≤ 140737488351232)
    (h1 : (Lit.int .u32 t1).wf = true) (h2 : (Lit.int .u32 t2).wf = true) (h3 : (Lit.int .u32 t3).wf = true) (h4 : (Lit.int .u32 t4).wf = true) (h5 : (Lit.int .u32 t5).wf = true) (w2 : IsRowN 10 FCallV w a2 len2 cap2) :
    Calls Try.prog 10 #[.slice a0 len0 cap0, .agg #[.int .u32 t1, .int .u32 t2, .int .u32 t3, .int .u32 t4, .int .u32 t5], .slice a2 len2 cap2] w fun e w' => e = .returned (.bool true) ∧ Below w.heap.size w w' := by
  obtain ⟨l, rfl, hr, hm, hwf, hc⟩ := ReadsInt.ofRowC w0
  obtain ⟨cs, hcs, r, ro⟩ := fRow w2
  have rr : ∀ {x : Int}, (Lit.int .u32 x).wf = true → R32 x := fun {x} h => by
    obtain ⟨n, rfl, hn⟩ := u32_nat h
    unfold R32; omega
  have hT : Tabs.ok ⟨t1, t2, t3, t4, t5⟩ := ⟨rr h1, rr h2, rr h3, rr h4, rr h5⟩
  have hby : Bytes l := fun x hx => by obtain ⟨j, rfl, hj⟩ := u8_nat (hwf x hx); omega
  by_cases h : 8192 < l.length
  · exact fdoes_off a0 l cap0 ⟨t1, t2, t3, t4, t5⟩ a2 _ cap2 w h
  · by_cases h60 : 60 < len2
    · exact fdoes_many a0 l cap0 ⟨t1, t2, t3, t4, t5⟩ a2 _ cap2 w (by omega) h60
    · exact fdoes_ok a0 cap0 l ⟨t1, t2, t3, t4, t5⟩ a2 len2 cap2 cs w (by omega) hr hby hT (by omega) hcs r ro
end Go.Proofs.Ytiogbgjeimdgmaa.RefWalk
