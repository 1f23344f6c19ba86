/- The MMU's Load, walked. -/
import Derived.Test.YtiogbgjeimdgmaaMmuM
namespace Go.Proofs.Ytiogbgjeimdgmaa.MmuWalk
open Go.RowKit Go.Proofs.Ytiogbgjeimdgmaa.Aid Go.Proofs.YtiogbgjeimdgmaaW.PrintWords Go.Proofs.YtiogbgjeimdgmaaW.PrintLast Go.Proofs.YtiogbgjeimdgmaaW.PrintMore
open Go.Proofs.Ytiogbgjeimdgmaa.RamWalk (RamAt Bytes leN info5 bytes_n)
open Go.Proofs.Ytiogbgjeimdgmaa.TlbWalk (TlbAt Kept2 putP dropP posP entP nil2 own_some own_val own_then)
attribute [local go_sem] max2_int min2_int max_two min_two max_three min_three max_four min_four   -- for this text's walks alone
set_option linter.unusedVariables false
set_option linter.unusedSimpArgs false
theorem Pcs.len {T : Tabs} {l : List Int} {u wr keep : Bool} {ps : List (Int × Int)} {va n : Int} {xs : List Pc} {f : Flt} {ps' : List (Int × Int)} (h : Pcs T l u wr keep ps va n xs f ps') : xs.length ≤ n.toNat := by
  induction h with
  | done h => exact Nat.zero_le _
  | stop h hf => exact Nat.zero_le _
  | @more ps0 va0 n0 xs f ps' h hf k ih =>
    have h2 := stepN_pos (va := va0) h
    split
    · rw [List.length_cons]; omega
    · exact Nat.zero_le _
set_option maxRecDepth 100000 in
set_option maxHeartbeats 4000000 in
theorem load_call (w : World) (base : Nat) (L : Loc) (v : Value) (T : Tabs) (ps : List (Int × Int)) (l : List Int) (va n : Int) (u : Bool) (hv : R32 va) (hn : n ≤ 65536) (hn0 : -9223372036854775808 ≤ n) (h : MmuAt w base L v T ps l) :
    Calls Try.prog 34 #[.pointer (some ⟨L.m, 0, none⟩), .int .u32 va, .int .i64 n, .bool u] w fun e w' => ∃ A c xs fk fv fi ps', Pcs T l u false true ps va n xs (fk, fv, fi) ps' ∧ e = .returned (.tuple #[.slice A (loadL l xs).length c, .agg #[.int .i64 fk, .int .u32 fv, .int .u32 fi]]) ∧ MStep w w' base L v T ps' l ∧ w'.ownsRow w.heap.size 5 1 (.slice A (loadL l xs).length c) (loadL l xs).length (nums .u8 (loadL l xs)) := by
  have M := Aside0.mk h
  have HV := Aside0.mk hv
  have HN := Aside0.mk (And.intro hn hn0)
  have BX := box1 w (.cells #[.int .i64 0, .int .u32 0, .int .u32 0] 47 (0, 0))
  obtain ⟨W, hW⟩ : ∃ W, w.alloc (.cells #[.int .i64 0, .int .u32 0, .int .u32 0] 47 (0, 0)) = W := ⟨_, rfl⟩
  rw [hW] at BX
  have Z := Aside0.mk BX.2
  have BB := Aside0.mk BX.1
  have PC := Aside0.mk (pieces_v W base L v T ps l va n u false true hv hn hn0 (M.out.then BX.1))
  clear h BX hv hn hn0
  go_enter Try.func34, Try.ntmps34
  go_wp2_with (first
    | (go_at_call 68; (with_reducible refine (PC.out).mono ?_); rintro e w2 ⟨A, c, xs, fk, fv, fi, ps2, hp, rfl, s, ho⟩; have HP := Aside0.mk hp; have S := Aside0.mk (MStep.after BB.out s); have S0 := Aside0.mk s; have HO := Aside0.mk ho; have Z := Aside0.mk (box_keep M.out Z.out (Nat.le_refl _) s); clear hp s ho))
  obtain ⟨v2, m2, _⟩ := S0.out.at_
  have bl := below_alloc (Below.refl _ w2) (.cells #[.int .i64 fk, .int .u32 fv, .int .u32 fi] 47 (0, 0))
  have Y := Aside0.mk (heap_alloc_new w2 (.cells #[.int .i64 fk, .int .u32 fv, .int .u32 fi] 47 (0, 0)))
  have Zn := Aside0.mk (row_then Z.out bl)
  have Sn := Aside0.mk (S.out.then bl)
  have MV := Aside0.mk (m2.then bl)
  have OV := Aside0.mk (own_then HO.out bl)
  have hsz := bl.size
  have hsw := S.out.chg.size
  have hzl := (Array.getElem?_eq_some_iff.1 Z.out).1
  have SZ := Aside0.mk (And.intro hsz (And.intro hsw hzl))
  have hne : ¬ w2.heap.size = w.heap.size := by omega
  have HWV := Aside0.mk (show w.heap.size ≤ (w2.alloc (.cells #[.int .i64 fk, .int .u32 fv, .int .u32 fi] 47 (0, 0))).heap.size by omega)
  clear m2 bl hsz hsw hzl
  generalize w2.alloc (.cells #[.int .i64 fk, .int .u32 fv, .int .u32 fi] 47 (0, 0)) = V at *
  go_loopw [12, 31] (fun o i wr => ∃ j : Nat, j ≤ xs.length ∧ i = .int .i64 j ∧ Aside0 (LHead V wr l xs j o)) (fun _ i _ => xs.length - (intOf i).toNat)
  case atStart => exact ⟨0, Nat.zero_le _, rfl, ⟨⟨Below.refl _ _, World.ownsRow_nil _ _ _ _⟩⟩⟩
  case round =>
    obtain ⟨j, hj, rfl, LH⟩ := hrel
    by_cases hjn : j = xs.length
    · subst hjn
      obtain ⟨A1, c1, rfl⟩ := own_val LH.out.out
      have Y1 := Aside0.mk (row_then Y.out LH.out.below)
      have Z1 := Aside0.mk (row_then Zn.out LH.out.below)
      have y0 := cell_of_row _ _ 0 _ _ _ Y1.out
      have y1 := cell_of_row _ _ 1 _ _ _ Y1.out
      have y2 := cell_of_row _ _ 2 _ _ _ Y1.out
      have z0 := cell_of_row _ _ 0 _ _ _ Z1.out
      have z1 := cell_of_row _ _ 1 _ _ _ Z1.out
      have z2 := cell_of_row _ _ 2 _ _ _ Z1.out
      have g0 := frozen_of_row _ _ 0 _ _ Z1.out
      have g1 := frozen_of_row _ _ 1 _ _ Z1.out
      have g2 := frozen_of_row _ _ 2 _ _ Z1.out
      simp only [List.getElem?_toArray, List.getElem?_cons_zero, List.getElem?_cons_succ] at y0 y1 y2 z0 z1 z2
      go_wp2
      go_region
      go_wp2
      have O := LH.out.out
      rw [List.take_length] at O
      refine bodyPost_ret (results_tc rfl _ _ (w.heap.size) 47 #[.int .i64 fk, .int .u32 fv, .int .u32 fi] (0, 0) _ rfl (flt3_put Z1.out _ _ _) Try.underlying47 rfl infoF) rfl ⟨A1, c1, xs, fk, fv, fi, ps2, HP.out, by rw [List.take_length]; rfl, MStep.put3 (Sn.out.then LH.out.below) (Nat.le_refl _) Z1.out (by unfold mTy; decide) _ _ _, own_less (own_put3 O Z1.out (by decide) _ _ _) HWV.out⟩
    · have hj' : j < xs.length := by omega
      have hjb : j < 65537 := by have := HP.out.len; have := HN.out; omega
      obtain ⟨b, rfl, hbl, hc⟩ := pcs_at OV.out (by omega)
      have q0 := (LH.out.below.cell (p := ⟨b, j * 5, none⟩) hbl).trans (hc j hj' 0 (by omega))
      have q1 := (LH.out.below.cell (p := ⟨b, j * 5 + 1, none⟩) hbl).trans (hc j hj' 1 (by omega))
      have q2 := (LH.out.below.cell (p := ⟨b, j * 5 + 2, none⟩) hbl).trans (hc j hj' 2 (by omega))
      have q3 := (LH.out.below.cell (p := ⟨b, j * 5 + 3, none⟩) hbl).trans (hc j hj' 3 (by omega))
      have q4 := (LH.out.below.cell (p := ⟨b, j * 5 + 4, none⟩) hbl).trans (hc j hj' 4 (by omega))
      have hmem : xs.getD j (0, 0, 0) ∈ xs := by rw [List.getD_eq_getElem?_getD, List.getElem?_eq_getElem hj']; exact List.getElem_mem hj'
      have hr := HP.out.r HV.out _ hmem
      have hf := HP.out.fit _ hmem
      have hnx := loadL_next l xs j hj'
      have hle := loadL_le l xs (j + 1)
      have hsum := HP.out.sum
      simp only [pc5, List.getElem?_cons_zero, List.getElem?_cons_succ] at q0 q1 q2 q3 q4
      generalize xs.getD j (0, 0, 0) = p at *
      obtain ⟨pv, pp, pn⟩ := p
      obtain ⟨hr0, hr1, hr2⟩ := hr
      obtain ⟨pk, hpk⟩ : ∃ pk : Nat, (pk : Int) = pp := ⟨pp.toNat, by have := hr1.1; show ((Int.toNat pp : Nat) : Int) = pp; exact Int.toNat_of_nonneg this⟩
      subst hpk
      have hr1' : pk < 4294967296 := by have := hr1.2; simp only at this; omega
      have hf' : pk + pn ≤ l.length := by simp only at hf; omega
      simp only [Int.toNat_natCast] at hnx q0 q1 q2 q3 q4
      have BX3 := box1 wr (.cells #[.int .u32 pv, .bool u, .bool false, .int .u32 pk, .int .i64 pn] 123 (0, 0))
      obtain ⟨W3, hW3⟩ : ∃ W3, wr.alloc (.cells #[.int .u32 pv, .bool u, .bool false, .int .u32 pk, .int .i64 pn] 123 (0, 0)) = W3 := ⟨_, rfl⟩
      rw [hW3] at BX3
      have B3 := Aside0.mk (below_step LH.out.below BX3.1)
      have M3 := Aside0.mk (MV.out.then B3.out)
      have hS : Aside0 (∀ W', Below W3.heap.size W3 W' → W'.cell? ⟨L.m, 0, none⟩ = some (.pointer (some ⟨L.r, 0, none⟩)) ∧ W'.cell? ⟨wr.heap.size, 3, none⟩ = some (.int .u32 pk) ∧ W'.cell? ⟨wr.heap.size, 4, none⟩ = some (.int .i64 pn)) := ⟨fun W' hW' => ⟨(M3.out.then hW').cell 0, cell_of_row _ _ 3 _ _ _ (row_then BX3.2 hW'), cell_of_row _ _ 4 _ _ _ (row_then BX3.2 hW')⟩⟩
      have RB := Aside0.mk (fun W' (hW' : Below W3.heap.size W3 W') => bytes_n W' base L.r L.b l.length L.c l _ pk pn hr1' (M3.out.then hW').ram hf' rfl)
      have O3 := Aside0.mk (own_then LH.out.out BX3.1)
      have NX := Aside0.mk (And.intro hnx (And.intro hle hsum))
      have HJ := Aside0.mk hj'
      have hS0 := hS.out W3 (Below.refl _ _)
      clear hc hmem hf hr0 hr1 hr2 hnx hle hsum hj'
      clear BX3
      go_wp2
      go_region_held3 (fun W' => W'.cell? ⟨L.m, 0, none⟩ = some (.pointer (some ⟨L.r, 0, none⟩)) ∧ W'.cell? ⟨wr.heap.size, 3, none⟩ = some (.int .u32 pk) ∧ W'.cell? ⟨wr.heap.size, 4, none⟩ = some (.int .i64 pn))
        (first | exact hS.out _ (by assumption) | exact hS.out _ ((Below.refl _ _).drew))
        (first
        | (go_at_call 37; (with_reducible refine (RB.out _ ((Below.refl _ _).drew)).mono ?_); rintro e w1 ⟨b', c', rfl, ho, hb⟩; have hb1 : Below W3.heap.size W3 w1 := below_step ((Below.refl _ _).drew) hb; have RD := Aside0.mk (own_reads' ho); clear hb ho))
      have O5 := Aside0.mk (own_then O3.out hb1)
      have B5 := Aside0.mk (below_step B3.out hb1)
      have LN := Aside0.mk (show ((loadL l (xs.take j)).length + pn) * 1 ≤ 140737488355328 by have h1 := NX.out.2; have h2 := HN.out; have e : ((l.drop pk).take pn).length = pn := RD.out.1; rw [NX.out.1, List.length_append, e] at h1; omega)
      clear hb1
      go_wp2_with (first
        | (at_builtin; refine print_append_row (w0 := V) V.heap.size rfl (.tmp 47) (.tmp 48) 22 5 .u8 1 rfl Try.underlying22 info5 (by decide) u12 (loadL l (xs.take j)) ((l.drop pk).take pn) (some ⟨b', 0, none⟩) pn c' rfl rfl O5.out RD.out B5.out B5.out.size LN.out ?_; intro v1 w4 ho hb hg hat; have O6 := Aside0.mk ho; have B6 := Aside0.mk hb; clear ho hb hg hat))
      go_roundw
      case rel => exact ⟨j + 1, HJ.out, by go_num, ⟨⟨B6.out, by rw [NX.out.1]; exact O6.out⟩⟩⟩
      case measure => have := HJ.out; simp [intOf]; omega
end Go.Proofs.Ytiogbgjeimdgmaa.MmuWalk
