/- The MMU's Store, walked: bytes that are laid. -/
import Derived.Test.YtiogbgjeimdgmaaMmuY
namespace Go.Proofs.Ytiogbgjeimdgmaa.MmuWalk
open Go.RowKit Go.Proofs.Ytiogbgjeimdgmaa.Aid Go.Proofs.YtiogbgjeimdgmaaW.PrintWords Go.Proofs.YtiogbgjeimdgmaaW.PrintLast Go.Proofs.YtiogbgjeimdgmaaW.PrintMore
open Go.Proofs.Ytiogbgjeimdgmaa.RamWalk (RamAt Bytes leN info5 bytes_n)
open Go.Proofs.Ytiogbgjeimdgmaa.TlbWalk (TlbAt Kept2 putP dropP posP entP nil2 own_some own_val own_then)
attribute [local go_sem] max2_int min2_int max_two min_two max_three min_three max_four min_four   -- for this text's walks alone
set_option linter.unusedVariables false
set_option linter.unusedSimpArgs false
theorem lays_rest : ∀ (xs : List Pc) {l bs : List Int}, Bytes bs → Bytes (lays xs l bs).2
  | [], l, bs, k => k
  | p :: xs, l, bs, k => lays_rest xs (l := (layS (l, bs) p).1) (bs := (layS (l, bs) p).2) (k.drop _)
theorem BHead.next {V wr W w5 : World} {base : Nat} {L : Loc} {v v4 : Value} {T : Tabs} {ps : List (Int × Int)} {xs : List Pc} {l1 bs : List Int} {j m c pn pk : Nat} {pv : Int} {A A2 : Option Addr} (H : BHead V wr base L v T ps xs l1 bs j A m c) (hj : j < xs.length) (hp : xs.getD j (0, 0, 0) = (pv, (pk : Int), pn)) (hm : pn ≤ m)
    (nx : NextRow V v v4) (b : Below wr.heap.size wr W) (s : MStep W w5 base L v4 T ps (layS (lays (xs.take j) l1 bs) (pv, (pk : Int), pn)).1) (hA : A2 = A.map (·.add pn) ∨ pn = m) : BHead V w5 base L v T ps xs l1 bs (j + 1) A2 (m - pn) (c - pn) := by
  have e := lays_next xs l1 bs j hj
  rw [hp] at e
  have e2 : (lays (xs.take (j + 1)) l1 bs).2 = (lays (xs.take j) l1 bs).2.drop pn := by rw [e]; rfl
  refine ⟨?_, ?_, by have := H.cap; omega, ?_, ?_⟩
  · rw [e]
    exact MStep.via (H.st.chg.then b) nx s
  · rw [e2, List.length_drop, H.len]
  · rw [e2]
    rcases hA with rfl | hA
    · exact reads_tail H.rd pn hm
    · exact ⟨by rw [List.length_drop, H.len], by omega, fun q => by omega⟩
  · intro a ha hpos
    rcases hA with rfl | hA
    · obtain ⟨a0, h0, hb⟩ := map_block ha
      rw [hb]
      exact H.apart a0 h0 (by omega)
    · omega
set_option maxRecDepth 100000 in
set_option maxHeartbeats 8000000 in
theorem store_fine (w : World) (base : Nat) (L : Loc) (v : Value) (T : Tabs) (ps : List (Int × Int)) (l : List Int) (va : Int) (u : Bool) (A : Option Addr) (c : Nat) (bs : List Int) (xs : List Pc) (ps' : List (Int × Int)) (hv : R32 va) (hn : bs.length ≤ 65536) (hb : Bytes bs) (hc : bs.length ≤ c) (hr : ReadsInt w .u8 A bs.length bs) (hA : ∀ a, A = some a → 0 < bs.length → ¬ foot L v a.block) (hp : Pcs T l u true true ps va bs.length xs (0, 0, 0) ps') (h : MmuAt w base L v T ps l) :
    Calls Try.prog 38 #[.pointer (some ⟨L.m, 0, none⟩), .int .u32 va, .bool u, .slice A bs.length c] w fun e w' => e = .returned (.agg #[.int .i64 0, .int .u32 0, .int .u32 0]) ∧ MStep w w' base L v T (marks T xs ps' l).1 (lays xs (marks T xs ps' l).2 bs).1 := by
  have M := Aside0.mk h
  have HB := Aside0.mk hb
  have HR := Aside0.mk hr
  have HA := Aside0.mk hA
  have HC := Aside0.mk hc
  have HX := Aside0.mk (And.intro hn (And.intro (hp.total rfl) (And.intro hp.fit (And.intro (hp.r hv) hp.len))))
  have BX := box1 w (.cells #[.int .i64 0, .int .u32 0, .int .u32 0] 47 (0, 0))
  obtain ⟨W, hW⟩ : ∃ W, w.alloc (.cells #[.int .i64 0, .int .u32 0, .int .u32 0] 47 (0, 0)) = W := ⟨_, rfl⟩
  rw [hW] at BX
  have Z := Aside0.mk BX.2
  have BB := Aside0.mk BX.1
  have PC := Aside0.mk (pieces_is W base L v T ps l va bs.length u true true hv (by omega) (by omega) (M.out.then BX.1) xs 0 0 0 ps' hp)
  obtain ⟨nb, hnb⟩ : ∃ nb, bs.length = nb := ⟨_, rfl⟩
  rw [hnb] at PC ⊢
  have HNB := Aside0.mk hnb
  clear h BX hv hn hp hb hr hA hnb hc
  go_enter Try.func38, Try.ntmps38
  go_wp2_with (first
    | (go_at_call 68; (with_reducible refine (PC.out).mono ?_); rintro e w2 ⟨A', c', rfl, s, ho⟩; have S := Aside0.mk (MStep.after BB.out s); have S0 := Aside0.mk s; have HO := Aside0.mk ho; have Z := Aside0.mk (box_keep M.out Z.out (Nat.le_refl _) s); clear s ho))
  obtain ⟨v2, m2, nx2⟩ := S.out.at_
  have bl := below_alloc (Below.refl _ w2) (.cells #[.int .i64 0, .int .u32 0, .int .u32 0] 47 (0, 0))
  have Zn := Aside0.mk (row_then Z.out bl)
  have Sn := Aside0.mk (S.out.then bl)
  have MV := Aside0.mk (m2.then bl)
  have OV := Aside0.mk (own_then HO.out bl)
  have NX2 := Aside0.mk nx2
  have hzl := (Array.getElem?_eq_some_iff.1 Z.out).1
  have HWV := Aside0.mk (show w.heap.size < (w2.alloc (.cells #[.int .i64 0, .int .u32 0, .int .u32 0] 47 (0, 0))).heap.size by have := bl.size; omega)
  clear m2 nx2 bl hzl
  generalize w2.alloc (.cells #[.int .i64 0, .int .u32 0, .int .u32 0] 47 (0, 0)) = V at *
  go_loopw [34] (fun i wr => ∃ j : Nat, j ≤ xs.length ∧ i = .int .i64 j ∧ Aside0 (MStep V wr base L v2 T (marks T (xs.take j) ps' l).1 (marks T (xs.take j) ps' l).2)) (fun i _ => xs.length - (intOf i).toNat)
  case atStart => exact ⟨0, Nat.zero_le _, rfl, ⟨MStep.of_below MV.out (Below.refl _ _)⟩⟩
  case round =>
    obtain ⟨j, hj, rfl, SJ⟩ := hrel
    obtain ⟨v3, m3, nx3⟩ := SJ.out.at_
    have M3 := Aside0.mk m3
    have NX3 := Aside0.mk nx3
    have OJ := Aside0.mk (own_ty MV.out OV.out (by unfold mTy; decide) SJ.out)
    have ZJ := Aside0.mk (box_ty MV.out Zn.out (by unfold mTy; decide) SJ.out)
    clear m3 nx3
    by_cases hjn : j = xs.length
    · subst hjn
      have SJ2 := SJ.out
      have M3b := M3.out
      rw [List.take_length] at SJ2 M3b
      have SJ := Aside0.mk SJ2
      have M3 := Aside0.mk M3b
      have HL1 := Aside0.mk (marks_length T xs ps' l)
      have HB1 := Aside0.mk (marks_bytes (T := T) xs (ps := ps') M.out.by_)
      clear SJ2 M3b
      obtain ⟨⟨ps1, l1⟩, hml⟩ : ∃ ml, marks T xs ps' l = ml := ⟨_, rfl⟩
      have HML := Aside0.mk hml
      have SJ := Aside0.mk (hml ▸ SJ.out)
      have M3 := Aside0.mk (hml ▸ M3.out)
      have HL1 := Aside0.mk (hml ▸ HL1.out)
      have HB1 := Aside0.mk (hml ▸ HB1.out)
      simp only at SJ M3 HL1 HB1
      clear hml
      obtain ⟨wc, rfl⟩ : ∃ wc : World, wc = wr := ⟨_, rfl⟩
      have B0 : Aside0 (BHead wc wc base L v3 T ps1 xs l1 bs 0 A nb c) := ⟨⟨MStep.of_below M3.out (Below.refl _ _), HNB.out, by rw [← HNB.out]; exact HC.out, by
        have r1 := reads_chg HR.out (Sn.out.chg.trans SJ.out.chg (fun i hi f => foot_of NX2.out i hi f)) HA.out
        rw [HNB.out] at r1; exact r1, fun a ha hpos f => by
          obtain ⟨ad, he, hc⟩ := HR.out.2.2 (by rw [HNB.out]; exact hpos)
          have hbk := World.block_lt_of_cell? w _ (hc 0 (by rw [HNB.out]; exact hpos))
          rw [he] at ha
          simp only [Option.some.injEq] at ha
          subst ha
          have hz : (ad.add 0).block = ad.block := rfl
          rw [hz] at hbk
          exact HA.out ad he (by rw [HNB.out]; exact hpos) (foot_of NX2.out _ hbk (foot_of NX3.out _ (by have := HWV.out; omega) f))⟩⟩
      go_wp2_with fail
      go_loopw [3, 45] (fun b i wq => ∃ (j m c : Nat) (A2 : Option Addr), j ≤ xs.length ∧ i = .int .i64 j ∧ b = .slice A2 m c ∧ Aside0 (BHead wc wq base L v3 T ps1 xs l1 bs j A2 m c)) (fun _ i _ => xs.length - (intOf i).toNat)
      case atStart => exact ⟨0, nb, c, A, Nat.zero_le _, rfl, rfl, B0⟩
      case round =>
        obtain ⟨j, m, k, A2, hj, rfl, rfl, BH⟩ := hrel
        obtain ⟨v4, m4, nx4⟩ := BH.out.st.at_
        have M4 := Aside0.mk m4
        have NX4 := Aside0.mk nx4
        have OK := Aside0.mk (own_ty M3.out OJ.out (by unfold mTy; decide) BH.out.st)
        have ZK := Aside0.mk (box_ty M3.out ZJ.out (by unfold mTy; decide) BH.out.st)
        clear m4 nx4
        by_cases hjn : j = xs.length
        · subst hjn
          have BS := BH.out.st
          rw [List.take_length] at BS
          have BS := Aside0.mk BS
          go_wp2_with (first
            | (refine wpList_store_row rfl 47 (.tmp 8) (.tmp 65) rfl w.heap.size #[.int .i64 0, .int .u32 0, .int .u32 0] rfl rfl _ _ ZK.out infoF rfl (by kernel_rfl) ?_))
          refine bodyPost_ret (results_cell_row rfl _ _ (w.heap.size) 47 #[.int .i64 0, .int .u32 0, .int .u32 0] (0, 0) _ rfl (setRow_heap _ _ _ _ 47 _ ZK.out) Try.underlying47 rfl infoF) rfl ⟨rfl, by rw [HML.out]; exact MStep.setRow (MStep.via Sn.out.chg NX2.out (MStep.via SJ.out.chg NX3.out BS.out)) (Nat.le_refl _) ZK.out (by unfold mTy; decide) _⟩
        · have hj' : j < xs.length := by omega
          have hjb : j < 65537 := by have := HX.out.1; have := HX.out.2.2.2.2; omega
          obtain ⟨b, rfl, hbl, hc⟩ := pcs_at OK.out (by omega)
          have q0 : wr.cell? ⟨b, j * 5, none⟩ = _ := hc j hj' 0 (by omega)
          have q1 := hc j hj' 1 (by omega)
          have q2 := hc j hj' 2 (by omega)
          have q3 := hc j hj' 3 (by omega)
          have q4 := hc j hj' 4 (by omega)
          have hmem : xs.getD j (0, 0, 0) ∈ xs := by rw [List.getD_eq_getElem?_getD, List.getElem?_eq_getElem hj']; exact List.getElem_mem hj'
          have hr := HX.out.2.2.2.1 _ hmem
          have hf := HX.out.2.2.1 _ hmem
          have hs1 := sumN_next xs j hj'
          have hs2 := sumN_take xs (j + 1)
          have hlen := lays_length (xs.take j) l1 bs (fun p hp => by have h1 := HX.out.2.2.1 p (List.mem_of_mem_take hp); have h2 := HX.out.2.2.2.1 p (List.mem_of_mem_take hp); have h3 := h2.2.1.1; have h4 := HL1.out; omega) (by have := HX.out.2.1; omega)
          have hby := lays_bytes (xs.take j) HB1.out HB.out
          have hm := BH.out.len
          rw [hlen.2] at hm
          obtain ⟨p, hpe⟩ : ∃ p, xs.getD j (0, 0, 0) = p := ⟨_, rfl⟩
          rw [hpe] at q0 q1 q2 q3 q4 hmem hr hf hs1
          simp only [pc5, List.getElem?_cons_zero, List.getElem?_cons_succ] at q0 q1 q2 q3 q4
          obtain ⟨pv, pp, pn⟩ := p
          obtain ⟨hr0, hr1, hr2⟩ := hr
          obtain ⟨pk, hpk⟩ : ∃ pk : Nat, (pk : Int) = pp := ⟨pp.toNat, by have := hr1.1; show ((Int.toNat pp : Nat) : Int) = pp; exact Int.toNat_of_nonneg this⟩
          subst hpk
          have hr1' : pk < 4294967296 := by have := hr1.2; simp only at this; omega
          have hf' : pk + pn ≤ l.length := by simp only at hf; omega
          have hpm : pn ≤ m := by have := HX.out.2.1; simp only at hs1; omega
          have hpk2 : (pn : Int) ≤ k := by have := BH.out.cap; omega
          have hpm2 : (pn : Int) ≤ m := by omega
          have HPE := Aside0.mk hpe
          have HPM := Aside0.mk hpm
          have HR1 := Aside0.mk hr1'
          have HF := Aside0.mk hf'
          have HBY := Aside0.mk hby
          have HLEN := Aside0.mk hlen.1
          have BX3 := box1 wr (.cells #[.int .u32 pv, .bool u, .bool true, .int .u32 pk, .int .i64 pn] 123 (0, 0))
          obtain ⟨W3, hW3⟩ : ∃ W3, wr.alloc (.cells #[.int .u32 pv, .bool u, .bool true, .int .u32 pk, .int .i64 pn] 123 (0, 0)) = W3 := ⟨_, rfl⟩
          rw [hW3] at BX3
          have B3 := Aside0.mk BX3.1
          have X3 := Aside0.mk BX3.2
          have M5 := Aside0.mk (M4.out.then B3.out)
          have hS : Aside0 (∀ W', Below W3.heap.size W3 W' → W'.cell? ⟨L.m, 0, none⟩ = some (.pointer (some ⟨L.r, 0, none⟩)) ∧ W'.cell? ⟨wr.heap.size, 3, none⟩ = some (.int .u32 pk) ∧ W'.cell? ⟨wr.heap.size, 4, none⟩ = some (.int .i64 pn)) := ⟨fun W' hW' => ⟨(M5.out.then hW').cell 0, cell_of_row _ _ 3 _ _ _ (row_then X3.out hW'), cell_of_row _ _ 4 _ _ _ (row_then X3.out hW')⟩⟩
          have LD : Aside0 (∀ W', Below W3.heap.size W3 W' → Calls Try.prog 16 #[.pointer (some ⟨L.r, 0, none⟩), .int .u32 pk, .slice A2 pn k] W' fun e w' => e = .returned (.int .i64 0) ∧ MStep W' w' base L v4 T ps1 (layS (lays (xs.take j) l1 bs) (pv, (pk : Int), pn)).1) := ⟨fun W' hW' => by
            have rd := reads_head (reads_chg BH.out.rd ((BH.out.st.chg.then B3.out).then hW') BH.out.apart) pn HPM.out
            have hll : (lays (xs.take j) l1 bs).1.length = l1.length := HLEN.out
            refine (load_at W' base L.r L.b L.c _ pn _ _ pk A2 k rfl rd.1 HR1.out (M5.out.then hW').ram rd (by have := HL1.out; have := HF.out; simp only at *; omega)).mono ?_
            rintro e w' ⟨rfl, hr, hg⟩
            have hl5 := layS_length (lays (xs.take j) l1 bs) (pv, (pk : Int), pn) (by have := HL1.out; have := HF.out; simp only [Int.toNat_natCast] at *; omega) (by rw [BH.out.len]; exact HPM.out)
            exact ⟨rfl, (M5.out.then hW').ram_step hl5.1 (by simpa only [layS, Int.toNat_natCast] using hr) hg (lays_bytes [(pv, (pk : Int), pn)] HBY.out (lays_rest (xs.take j) HB.out))⟩⟩
          have hS0 := hS.out W3 (Below.refl _ _)
          have HJ := Aside0.mk hj'
          clear hc hmem hf hr0 hr1 hr2 hs1 hs2 hlen hby hm hpe hj' hpm hr1' hf' BX3
          go_wp2_with fail
          go_region_held3 (fun W' => W'.cell? ⟨L.m, 0, none⟩ = some (.pointer (some ⟨L.r, 0, none⟩)) ∧ W'.cell? ⟨wr.heap.size, 3, none⟩ = some (.int .u32 pk) ∧ W'.cell? ⟨wr.heap.size, 4, none⟩ = some (.int .i64 pn))
            (first | exact hS.out _ (by assumption) | exact hS.out _ ((Below.refl _ _).drew) | exact hT2.out)
            (first
            | (go_at_call 16; (with_reducible refine (LD.out _ ((Below.refl _ _).drew)).mono ?_); rintro e w5 ⟨rfl, s5⟩; have S5 := Aside0.mk s5; have X5 := Aside0.mk (box_ty (M5.out.then ((Below.refl _ _).drew)) (row_then X3.out ((Below.refl _ _).drew)) (by unfold mTy; decide) s5); have hT2 : Aside0 (w5.cell? ⟨L.m, 0, none⟩ = some (.pointer (some ⟨L.r, 0, none⟩)) ∧ w5.cell? ⟨wr.heap.size, 3, none⟩ = some (.int .u32 pk) ∧ w5.cell? ⟨wr.heap.size, 4, none⟩ = some (.int .i64 pn)) := ⟨by obtain ⟨v8, h8, _⟩ := S5.out.at_; exact ⟨h8.cell 0, cell_of_row _ _ 3 _ _ _ X5.out, cell_of_row _ _ 4 _ _ _ X5.out⟩⟩; clear s5))
          have x4 := hT2.out.2.2
          go_wp2
          have HK : (if k = pn then A2 else Option.map (fun x => x.add pn) A2) = A2.map (·.add pn) ∨ pn = m := by
            by_cases hkp : k = pn
            · refine .inr ?_
              have h1 := BH.out.cap
              have h2 := HPM.out
              omega
            · rw [if_neg hkp]; exact .inl rfl
          go_roundw
          case rel => exact ⟨j + 1, m - pn, k - pn, _, HJ.out, by go_num, rfl, ⟨BHead.next BH.out HJ.out HPE.out HPM.out NX4.out (below_drew B3.out) S5.out HK⟩⟩
          case measure => have := HJ.out; simp [intOf]; omega
    · skip
      have hj' : j < xs.length := by omega
      have hjb : j < 65537 := by have := HX.out.1; have := HX.out.2.2.2.2; omega
      obtain ⟨b, rfl, hbl, hc⟩ := pcs_at OJ.out (by omega)
      have q0 : wr.cell? ⟨b, j * 5, none⟩ = _ := hc j hj' 0 (by omega)
      have q1 := hc j hj' 1 (by omega)
      have q2 := hc j hj' 2 (by omega)
      have q3 := hc j hj' 3 (by omega)
      have q4 := hc j hj' 4 (by omega)
      have hmem : xs.getD j (0, 0, 0) ∈ xs := by rw [List.getD_eq_getElem?_getD, List.getElem?_eq_getElem hj']; exact List.getElem_mem hj'
      have hr := HX.out.2.2.2.1 _ hmem
      have hnx := marks_next T xs ps' l j hj'
      simp only [pc5, List.getElem?_cons_zero, List.getElem?_cons_succ] at q0 q1 q2 q3 q4
      generalize xs.getD j (0, 0, 0) = p at *
      obtain ⟨pv, pp, pn⟩ := p
      have BX3 := box1 wr (.cells #[.int .u32 pv, .bool u, .bool true, .int .u32 pp, .int .i64 pn] 123 (0, 0))
      obtain ⟨W3, hW3⟩ : ∃ W3, wr.alloc (.cells #[.int .u32 pv, .bool u, .bool true, .int .u32 pp, .int .i64 pn] 123 (0, 0)) = W3 := ⟨_, rfl⟩
      rw [hW3] at BX3
      have d0 := cell_of_row _ _ 0 _ _ _ BX3.2
      have d1 := cell_of_row _ _ 1 _ _ _ BX3.2
      have d2 := cell_of_row _ _ 2 _ _ _ BX3.2
      simp only [List.getElem?_toArray, List.getElem?_cons_zero, List.getElem?_cons_succ] at d0 d1 d2
      have B3 := Aside0.mk BX3.1
      have MK := Aside0.mk (mark_call W3 base L v3 T _ _ pv u true hr.1 (M3.out.then B3.out))
      have NX := Aside0.mk hnx
      have HJ := Aside0.mk hj'
      clear hc hmem hr hnx hj' BX3
      go_wp2_with (first
        | (go_at_call 69; (with_reducible refine (MK.out).mono ?_); rintro e w4 ⟨rfl, s4⟩; have S4 := Aside0.mk s4; clear s4))
      go_roundw
      case rel => exact ⟨j + 1, HJ.out, by go_num, ⟨by rw [NX.out]; exact MStep.via (SJ.out.chg.then B3.out) NX3.out S4.out⟩⟩
      case measure => have := HJ.out; simp [intOf]; omega
end Go.Proofs.Ytiogbgjeimdgmaa.MmuWalk
