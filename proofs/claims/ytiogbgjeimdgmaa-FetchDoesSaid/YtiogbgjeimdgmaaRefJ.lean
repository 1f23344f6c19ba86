/- The document's MMU: Store, walked. -/
import Derived.Test.YtiogbgjeimdgmaaRefI
namespace Go.Proofs.Ytiogbgjeimdgmaa.RefWalk
open Go.RowKit Go.Proofs.Ytiogbgjeimdgmaa.Aid Go.Proofs.YtiogbgjeimdgmaaW.PrintWords Go.Proofs.YtiogbgjeimdgmaaW.PrintLast Go.Proofs.YtiogbgjeimdgmaaW.PrintMore
open Go.Proofs.Ytiogbgjeimdgmaa.MmuWalk (Chg R32 Flt fltV noF flt infoF Tabs row_ty own_keep two_ty box1 row_then flt3_put Pc Pcs Pcs.good Pcs.fitN Pcs.r Pcs.total markP markL markS marks marks_length marks_bytes lays lays_length lays_bytes sumN storeP storeL reads_chg markL_length markL_bytes)
open Go.Proofs.Ytiogbgjeimdgmaa.RamWalk (Bytes leN grown_put grown_refl)
open Go.Proofs.Ytiogbgjeimdgmaa.TlbWalk (RefAt own_then own_val own_some)
attribute [local go_sem] max2_int min2_int max_two min_two max_three min_three max_four min_four   -- for this text's walks alone
set_option linter.unusedVariables false
set_option linter.unusedSimpArgs false
theorem Placed.rstep {w w' : World} {base : Nat} {L : LocR} {vp ve vo : Value} {T : Tabs} {pl : Bool} {ps' : List (Int × Int)} {l : List Int} {zs : List Int} (P : Placed w w' base L vp ve T pl ps' l vo zs) : RStep w w' base L vp ve T pl ps' l := by
  obtain ⟨vp1, ve1, m, n1, n2, _⟩ := P.at_
  exact ⟨⟨vp1, ve1, m, n1, n2⟩, P.chg⟩
set_option maxRecDepth 100000 in
set_option maxHeartbeats 4000000 in
theorem rstore_flt (w : World) (base : Nat) (L : LocR) (vp ve : Value) (T : Tabs) (pl : Bool) (ps : List (Int × Int)) (l : List Int) (va : Int) (u : Bool) (A : Option Addr) (n c : Nat) (xs : List Pc) (fk fv fi : Int) (ps' : List (Int × Int)) (hv : R32 va) (hn : n ≤ 65536) (hp : Pcs T l u true (!pl) ps va n xs (fk, fv, fi) ps') (hk : (fk == 0) = false) (h : RmAt w base L vp ve T pl ps l) :
    Calls Try.prog 45 #[.pointer (some ⟨L.m, 0, none⟩), .int .u32 va, .bool u, .slice A n c] w fun e w' => e = .returned (.agg #[.int .i64 fk, .int .u32 fv, .int .u32 fi]) ∧ RStep w w' base L vp ve T pl ps' l := by
  have M := Aside0.mk h
  have BX := box1 w (.cells #[.int .i64 0, .int .u32 0, .int .u32 0] 47 (0, 0))
  obtain ⟨W, hW⟩ : ∃ W, w.alloc (.cells #[.int .i64 0, .int .u32 0, .int .u32 0] 47 (0, 0)) = W := ⟨_, rfl⟩
  rw [hW] at BX
  have Z := Aside0.mk BX.2
  have BB := Aside0.mk BX.1
  have MW := Aside0.mk (M.out.then BX.1)
  have PC := Aside0.mk (rplaces_is W base L vp ve T pl ps l va n u true hv (by omega) (by omega) xs fk fv fi ps' hp MW.out)
  clear h BX hv hn hp
  go_enter Try.func45, Try.ntmps45
  go_wp2_with (first
    | (go_at_call 70; (with_reducible refine (PC.out).mono ?_); rintro e w2 ⟨A', c', rfl, P⟩; have S := Aside0.mk (RStep.after BB.out P.rstep); have Z := Aside0.mk (P.rstep.box MW.out Z.out (by unfold rTy; decide)); clear P)
    | (refine wpList_store_row rfl 47 (.tmp 8) (.tmp 26) rfl w.heap.size #[.int .i64 fk, .int .u32 fv, .int .u32 fi] rfl rfl _ _ (row_then Z.out (below_alloc (Below.refl _ _) _)) infoF rfl (by kernel_rfl) ?_))
  refine bodyPost_ret (results_cell_row rfl _ _ (w.heap.size) 47 #[.int .i64 fk, .int .u32 fv, .int .u32 fi] (0, 0) _ rfl (setRow_heap _ _ _ _ 47 _ (row_then Z.out (below_alloc (Below.refl _ _) _))) Try.underlying47 rfl infoF) rfl ⟨rfl, RStep.setRow (S.out.then (below_alloc (Below.refl _ _) _)) (by omega) (row_then Z.out (below_alloc (Below.refl _ _) _)) (by unfold rTy; decide) _⟩
theorem num_cell {W : World} {B n c : Nat} {A : Option Addr} {zs : List Int} (h : W.ownsRow B 23 1 (.slice A n c) n (nums .u32 zs)) (hn : 0 < n) : ∃ b, A = some ⟨b, 0, none⟩ ∧ b < W.heap.size ∧ ∀ j, j < n → W.cell? ⟨b, j, none⟩ = some (.int .u32 (zs.getD j 0)) := by
  have hl := h.1
  rw [nums_length, Nat.mul_one] at hl
  rcases h.2 with ⟨_, h0⟩ | ⟨b, c', cur, hv, _, hh, _⟩
  · omega
  · simp only [Value.slice.injEq] at hv
    obtain ⟨rfl, -, rfl⟩ := hv
    refine ⟨b, rfl, (Array.getElem?_eq_some_iff.1 hh).1, fun j hj => ?_⟩
    have := h.cellAt j (by omega)
    rw [this]
    unfold nums
    have hj' : j < zs.length := by omega
    rw [List.getElem?_map, List.getElem?_eq_getElem hj', List.getD_eq_getElem?_getD, List.getElem?_eq_getElem hj']
    rfl
theorem mI_next (T : Tabs) (va : Int) (s : List (Int × Int) × List Int) (j : Nat) (h : bnd T va j) : mI T va s (j + 1) = (markP T (mI T va s j).1 ((va + (j : Nat)) % 4294967296), markL T (mI T va s j).1 (mI T va s j).2 ((va + (j : Nat)) % 4294967296)) := by
  show (if bnd T va j then _ else _) = _
  rw [if_pos h]; rfl
theorem mI_skip (T : Tabs) (va : Int) (s : List (Int × Int) × List Int) (j : Nat) (h : ¬ bnd T va j) : mI T va s (j + 1) = mI T va s j := by
  show (if bnd T va j then _ else _) = _
  rw [if_neg h]
set_option maxRecDepth 100000 in
set_option maxHeartbeats 8000000 in
theorem rstore_fine (w : World) (base : Nat) (L : LocR) (vp ve : Value) (T : Tabs) (pl : Bool) (ps : List (Int × Int)) (l : List Int) (va : Int) (u : Bool) (A : Option Addr) (n c : Nat) (bs : List Int) (xs : List Pc) (ps' : List (Int × Int)) (hlen : bs.length = n) (hv : R32 va) (hn : n ≤ 65536) (hb : Bytes bs) (hr : ReadsInt w .u8 A n bs) (hA : ∀ a, A = some a → 0 < n → ¬ rfoot L vp ve a.block) (hp : Pcs T l u true (!pl) ps va n xs (0, 0, 0) ps') (h : RmAt w base L vp ve T pl ps l) :
    Calls Try.prog 45 #[.pointer (some ⟨L.m, 0, none⟩), .int .u32 va, .bool u, .slice A n c] w fun e w' => e = .returned (.agg #[.int .i64 0, .int .u32 0, .int .u32 0]) ∧ RStep w w' base L vp ve T pl (marks T xs ps' l).1 (lays xs (marks T xs ps' l).2 bs).1 := by
  have M := Aside0.mk h
  have HB := Aside0.mk hb
  have HR := Aside0.mk hr
  have HA := Aside0.mk hA
  have HV := Aside0.mk hv
  have htot : sumN xs = n := by have := hp.total rfl; omega
  have hfit : ∀ p ∈ xs, 0 ≤ p.2.1 ∧ p.2.1.toNat + p.2.2 ≤ l.length := fun p hq => ⟨(hp.r hv p hq).2.1.1, hp.fitN hv p hq⟩
  have hmk := mI_marks hp hv rfl (ps', l)
  rw [Int.toNat_natCast] at hmk
  have hl1 := marks_length T xs ps' l
  have hly := layI_lays xs (marks T xs ps' l).2 bs (fun p hq => by rw [hl1]; exact hfit p hq) (by omega)
  have hal := addrL_length xs
  have ham := addrL_mem hfit
  have BX := box1 w (.cells #[.int .i64 0, .int .u32 0, .int .u32 0] 47 (0, 0))
  obtain ⟨W, hW⟩ : ∃ W, w.alloc (.cells #[.int .i64 0, .int .u32 0, .int .u32 0] 47 (0, 0)) = W := ⟨_, rfl⟩
  rw [hW] at BX
  have Z := Aside0.mk BX.2
  have BB := Aside0.mk BX.1
  have MW := Aside0.mk (M.out.then BX.1)
  have PC := rplaces_is W base L vp ve T pl ps l va n u true hv (by omega) (by omega) xs 0 0 0 ps' hp MW.out
  obtain ⟨ad, had⟩ : ∃ ad, addrL xs = ad := ⟨_, rfl⟩
  rw [had] at PC hly hal ham
  rw [hal, htot] at PC
  have PC := Aside0.mk PC
  have HX := Aside0.mk (And.intro (show ad.length = n by omega) (And.intro ham (And.intro hlen (And.intro hmk hly))))
  clear h BX hv hp hb hr hA hlen htot hfit hmk hl1 hly hal ham had
  go_enter Try.func45, Try.ntmps45
  go_wp2_with (first
    | (go_at_call 70; (with_reducible refine (PC.out).mono ?_); rintro e w2 ⟨A', c', rfl, P⟩; have PL := Aside0.mk P; have S := Aside0.mk (RStep.after BB.out P.rstep); have Z := Aside0.mk (P.rstep.box MW.out Z.out (by unfold rTy; decide)); clear P))
  obtain ⟨vp2, ve2, m2, n1, n2, of2⟩ := PL.out.at_
  have bl := below_alloc (Below.refl _ w2) (.cells #[.int .i64 0, .int .u32 0, .int .u32 0] 47 (0, 0))
  have Zn := Aside0.mk (row_then Z.out bl)
  have CV := Aside0.mk (S.out.chg.then bl)
  have MV := Aside0.mk (m2.then bl)
  have ov := own_then PL.out.row bl
  rw [HX.out.1] at ov
  have OV := Aside0.mk ov
  clear ov
  have OF := Aside0.mk (of2.up bl.size)
  have NX2 := Aside0.mk (show Nx w vp ve vp2 ∧ Nx w vp ve ve2 from ⟨fun i hi => by rcases n1 i hi with q | q | q; exact .inl q; exact .inr (.inl q); exact .inr (.inr (Nat.le_trans BB.out.size q)), fun i hi => by rcases n2 i hi with q | q | q; exact .inl q; exact .inr (.inl q); exact .inr (.inr (Nat.le_trans BB.out.size q))⟩)
  clear m2 n1 n2 of2 bl
  generalize w2.alloc (.cells #[.int .i64 0, .int .u32 0, .int .u32 0] 47 (0, 0)) = V at *
  go_loopw [29] (fun i wr => ∃ j : Nat, j ≤ n ∧ i = .int .i64 j ∧ Aside0 (RStep V wr base L vp2 ve2 T pl (mI T va (ps', l) j).1 (mI T va (ps', l) j).2)) (fun i _ => n - (intOf i).toNat)
  case atStart => exact ⟨0, Nat.zero_le _, rfl, ⟨RStep.of_below MV.out (Below.refl _ _)⟩⟩
  case round =>
    obtain ⟨j, hj, rfl, SJ⟩ := hrel
    obtain ⟨vp3, ve3, m3, n31, n32⟩ := SJ.out.at_
    have M3 := Aside0.mk m3
    have NX3 := Aside0.mk (And.intro n31 n32)
    clear m3 n31 n32
    by_cases hjn : j = n
    · subst hjn
      obtain ⟨⟨ps3, l1⟩, hml⟩ : ∃ ml, marks T xs ps' l = ml := ⟨_, rfl⟩
      have hmi : mI T va (ps', l) j = (ps3, l1) := HX.out.2.2.2.1.trans hml
      have SJ2 := SJ.out
      have M3b := M3.out
      rw [hmi] at SJ2 M3b
      have SJ := Aside0.mk SJ2
      have M3 := Aside0.mk M3b
      have HL1 := Aside0.mk (show l1.length = l.length by have := marks_length T xs ps' l; rw [hml] at this; exact this)
      have HML := Aside0.mk hml
      have hly := HX.out.2.2.2.2
      rw [hml] at hly
      have HLY := Aside0.mk hly
      have OJ := Aside0.mk (OF.out.keep SJ.out OV.out)
      have ZJ := Aside0.mk (SJ.out.box MV.out Zn.out (by unfold rTy; decide))
      have OF3 := Aside0.mk (OF.out.step NX3.out.1 NX3.out.2 SJ.out.chg.size)
      have hb1 := M3b.by_
      have HB1 := Aside0.mk hb1
      clear SJ2 M3b hml hmi hly hb1
      obtain ⟨wc, rfl⟩ : ∃ wc : World, wc = wr := ⟨_, rfl⟩
      go_wp2_with fail
      go_loopw [59] (fun i wq => ∃ k : Nat, k ≤ j ∧ i = .int .i64 k ∧ Aside0 (RStep wc wq base L vp3 ve3 T pl ps3 (layI l1 (ad.take k) (bs.take k)))) (fun i _ => j - (intOf i).toNat)
      case atStart => exact ⟨0, Nat.zero_le _, rfl, ⟨RStep.of_below M3.out (Below.refl _ _)⟩⟩
      case round =>
        obtain ⟨k, hk, rfl, SK⟩ := hrel
        obtain ⟨vp4, ve4, m4, n41, n42⟩ := SK.out.at_
        have M4 := Aside0.mk m4
        have NX4 := Aside0.mk (And.intro n41 n42)
        have OK := Aside0.mk (OF3.out.keep SK.out OJ.out)
        have ZK := Aside0.mk (SK.out.box M3.out ZJ.out (by unfold rTy; decide))
        clear m4 n41 n42
        by_cases hkj : k = j
        · have BS := SK.out
          rw [hkj, List.take_of_length_le (by rw [HX.out.1]; exact Nat.le_refl _), List.take_of_length_le (by rw [HX.out.2.2.1]; exact Nat.le_refl _), HLY.out] at BS
          have BS := Aside0.mk BS
          have hkl : ¬ (k : Int) < j := by omega
          have hkl2 : ¬ k < j := by omega
          clear hkj
          go_wp2_with (first
            | (refine wpList_store_row rfl 47 (.tmp 8) (.tmp 78) rfl w.heap.size #[.int .i64 0, .int .u32 0, .int .u32 0] rfl rfl _ _ ZK.out infoF rfl (by kernel_rfl) ?_))
          refine bodyPost_ret (results_cell_row rfl _ _ (w.heap.size) 47 #[.int .i64 0, .int .u32 0, .int .u32 0] (0, 0) _ rfl (setRow_heap _ _ _ _ 47 _ ZK.out) Try.underlying47 rfl infoF) rfl ⟨rfl, by rw [HML.out]; exact RStep.setRow (RStep.via CV.out NX2.out.1 NX2.out.2 (RStep.via SJ.out.chg NX3.out.1 NX3.out.2 BS.out)) (Nat.le_refl _) ZK.out (by unfold rTy; decide) _⟩
        · have hk' : k < j := by omega
          have hkl : (k : Int) < j := by omega
          obtain ⟨b, rfl, hbl, hc⟩ := num_cell OK.out (by omega)
          have cA := hc k hk'
          have hmem : ad.getD k 0 ∈ ad := by
            have hkl : k < ad.length := by have := HX.out.1; omega
            rw [List.getD_eq_getElem?_getD, List.getElem?_eq_getElem hkl]; exact List.getElem_mem hkl
          have hrg := HX.out.2.1 _ hmem
          obtain ⟨ad', hade, hcell⟩ := HR.out.2.2 (by omega)
          have R4 := reads_chg HR.out ((CV.out.trans SJ.out.chg (fun i hi f => rfoot_of NX2.out.1 NX2.out.2 i hi f)).trans SK.out.chg (fun i hi f => rfoot_of NX2.out.1 NX2.out.2 i hi (rfoot_of NX3.out.1 NX3.out.2 i (Nat.lt_of_lt_of_le hi CV.out.size) f))) HA.out
          subst hade
          obtain ⟨ad2, hade2, hcell2⟩ := R4.2.2 (by omega)
          simp only [Option.some.injEq] at hade2
          subst hade2
          have cB := hcell2 k hk'
          have hll : (layI l1 (ad.take k) (bs.take k)).length = l.length := by rw [layI_length]; exact HL1.out
          have hm24 : l.length ≤ 16777216 := by have := M3.out.ram.2.2.2.2; have := HL1.out; omega
          obtain ⟨a, ha⟩ : ∃ a : Nat, (a : Int) = ad.getD k 0 := ⟨(ad.getD k 0).toNat, Int.toNat_of_nonneg hrg.1⟩
          have hal : a < l.length := by have := hrg.2; rw [← ha] at this; simpa using this
          have hnx : layI l1 (ad.take (k + 1)) (bs.take (k + 1)) = (layI l1 (ad.take k) (bs.take k)).set a (bs.getD k 0) := by
            have h1 : k < ad.length := by have := HX.out.1; omega
            have h2 : k < bs.length := by have := HX.out.2.2.1; omega
            rw [List.take_add_one, List.getElem?_eq_getElem h1, List.take_add_one, List.getElem?_eq_getElem h2]
            have e1 : ad.getD k 0 = ad[k] := by rw [List.getD_eq_getElem?_getD, List.getElem?_eq_getElem h1]; rfl
            have e2 : bs.getD k 0 = bs[k] := by rw [List.getD_eq_getElem?_getD, List.getElem?_eq_getElem h2]; rfl
            have := layI_snoc (ad.take k) (bs.take k) l1 ad[k] bs[k] (by rw [List.length_take, List.length_take]; omega)
            rw [e2]
            rw [← e1, ← ha, Int.toNat_natCast] at this
            rw [← e1, ← ha]
            exact this
          rw [← ha] at cA
          have HNX := Aside0.mk hnx
          have BY4 := Aside0.mk (show Bytes ((layI l1 (ad.take k) (bs.take k)).set a (bs.getD k 0)) by rw [← hnx]; exact layI_bytes _ _ _ HB1.out (HB.out.take _))
          have HK := Aside0.mk hk'
          have HLL := Aside0.mk hll
          have r0 := M4.out.ram
          rw [hll] at r0
          have R0 := Aside0.mk r0
          have cR : wr.cell? ⟨L.m, 0, none⟩ = some (.pointer (some ⟨L.r, 0, none⟩)) := M4.out.cell 0
          obtain ⟨-, hcap, cF⟩ := r0.field
          have cO := r0.byte a hal
          have hfr := r0.free a
          clear hc hmem hrg hcell hcell2 ha hnx hll r0 hkj R4
          generalize (layI l1 (ad.take k) (bs.take k)).getD a 0 = old at *
          generalize bs.getD k 0 = y at *
          go_wp2
          go_region
          all_goals (
            go_wp2
            go_roundw
            case rel => exact ⟨k + 1, HK.out, by go_num, ⟨by
              rw [HNX.out]
              have P := R0.out.put a y
              have st := M4.out.ram_step (by rw [List.length_set]; exact HLL.out) P (grown_put (grown_refl wr _) a (.int .u8 y)) BY4.out
              exact RStep.via SK.out.chg NX4.out.1 NX4.out.2 (st.then (below_drew (Below.refl _ _)))⟩⟩
            case measure => have := HK.out; simp [intOf]; omega)
    · have hj' : j < n := by omega
      have hjl : (j : Int) < n := by omega
      have a1 : (j : Int) % 4294967296 = j := by omega
      have HJ := Aside0.mk hj'
      have c6 : wr.cell? ⟨L.m, 6, none⟩ = some (.int .u32 T.men) := M3.out.cell 6
      by_cases hm : T.men = 0
      · have NB := Aside0.mk (mI_skip T va (ps', l) j (fun c => c.1 hm))
        clear hjn
        go_wp2
        go_roundw
        case rel => exact ⟨j + 1, HJ.out, by go_num, ⟨by rw [NB.out]; exact SJ.out⟩⟩
        case measure => have := HJ.out; simp [intOf]; omega
      · have hm' : (T.men == 0) = false := beq_eq_false_iff_ne.mpr hm
        obtain ⟨q, hq⟩ : ∃ q, (va + (j : Int)) % 4294967296 = q := ⟨_, rfl⟩
        have hq0 : R32 q := by rw [← hq]; exact ⟨Int.emod_nonneg _ (by decide), Int.emod_lt_of_pos _ (by decide)⟩
        have MK := Aside0.mk (rmark_call wr base L vp3 ve3 T pl _ _ q hq0 M3.out hm)
        have hqm : Int.tmod q 512 = q % 512 := Int.tmod_eq_emod_of_nonneg hq0.1
        have HQ := Aside0.mk hq
        have HM := Aside0.mk hm
        by_cases hj0 : j = 0
        · have NB := Aside0.mk (mI_next T va (ps', l) j ⟨hm, .inl hj0⟩)
          have hj1 : ((j : Int) == 0) = true := beq_iff_eq.mpr (by omega)
          clear hq0 hjn hj0
          go_wp2_with (first
            | (go_at_call 71; (with_reducible refine (MK.out).mono ?_); rintro e w4 ⟨rfl, s4⟩; have S4 := Aside0.mk s4; clear s4))
          go_roundw
          case rel => exact ⟨j + 1, HJ.out, by go_num, ⟨by rw [NB.out, HQ.out]; exact RStep.via SJ.out.chg NX3.out.1 NX3.out.2 S4.out⟩⟩
          case measure => have := HJ.out; simp [intOf]; omega
        · have hj1 : ((j : Int) == 0) = false := beq_eq_false_iff_ne.mpr (by omega)
          by_cases hb : q % 512 = 0
          · have NB := Aside0.mk (mI_next T va (ps', l) j ⟨hm, .inr (by rw [hq]; exact hb)⟩)
            have hb1 : (q % 512 == 0) = true := beq_iff_eq.mpr hb
            clear hq0 hjn hj0 hb
            go_wp2_with (first
              | (go_at_call 71; (with_reducible refine (MK.out).mono ?_); rintro e w4 ⟨rfl, s4⟩; have S4 := Aside0.mk s4; clear s4))
            go_roundw
            case rel => exact ⟨j + 1, HJ.out, by go_num, ⟨by rw [NB.out, HQ.out]; exact RStep.via SJ.out.chg NX3.out.1 NX3.out.2 S4.out⟩⟩
            case measure => have := HJ.out; simp [intOf]; omega
          · have NB := Aside0.mk (mI_skip T va (ps', l) j (fun c => by rcases c.2 with c | c; exact hj0 c; rw [hq] at c; exact hb c))
            have hb1 : (q % 512 == 0) = false := beq_eq_false_iff_ne.mpr hb
            clear hq0 hjn hj0 hb MK
            go_wp2
            go_roundw
            case rel => exact ⟨j + 1, HJ.out, by go_num, ⟨by rw [NB.out]; exact SJ.out⟩⟩
            case measure => have := HJ.out; simp [intOf]; omega
end Go.Proofs.Ytiogbgjeimdgmaa.RefWalk
