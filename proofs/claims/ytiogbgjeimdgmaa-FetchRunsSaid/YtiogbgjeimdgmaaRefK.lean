/- The document's MMU: Store's contract; Load and Bytes, walked. -/
import Derived.Test.YtiogbgjeimdgmaaRefJ
namespace Go.Proofs.Ytiogbgjeimdgmaa.RefWalk
open Go.RowKit Go.Proofs.Ytiogbgjeimdgmaa.Aid Go.Proofs.YtiogbgjeimdgmaaW.PrintWords Go.Proofs.YtiogbgjeimdgmaaW.PrintLast Go.Proofs.YtiogbgjeimdgmaaW.PrintMore
open Go.Proofs.Ytiogbgjeimdgmaa.MmuWalk (Chg R32 Flt fltV noF flt infoF Tabs row_ty own_keep two_ty box1 row_then flt3_put Pc Pcs Pcs.good Pcs.fitN Pcs.r Pcs.total Pcs.sum Pcs.len markP markL marks lays sumN storeP storeL loadL reads_chg szI szI_le byL byL_length byL_next byL_bytes own_put3)
open Go.Proofs.Ytiogbgjeimdgmaa.RamWalk (Bytes leN info5)
open Go.Proofs.Ytiogbgjeimdgmaa.TlbWalk (RefAt own_then own_val own_some)
attribute [local go_sem] max2_int min2_int max_two min_two max_three min_three max_four min_four   -- for this text's walks alone
set_option linter.unusedVariables false
set_option linter.unusedSimpArgs false
theorem rstore_call (w : World) (base : Nat) (L : LocR) (vp ve : Value) (T : Tabs) (pl : Bool) (ps : List (Int × Int)) (l : List Int) (va : Int) (u : Bool) (A : Option Addr) (n c : Nat) (bs : List Int) (xs : List Pc) (fk fv fi : Int) (ps' : List (Int × Int)) (hlen : bs.length = n) (hv : R32 va) (hn : n ≤ 65536) (hb : Bytes bs) (hr : ReadsInt w .u8 A n bs) (hA : ∀ a, A = some a → 0 < n → ¬ rfoot L vp ve a.block) (hp : Pcs T l u true (!pl) ps va n xs (fk, fv, fi) ps') (h : RmAt w base L vp ve T pl ps l) :
    Calls Try.prog 45 #[.pointer (some ⟨L.m, 0, none⟩), .int .u32 va, .bool u, .slice A n c] w fun e w' => e = .returned (.agg #[.int .i64 fk, .int .u32 fv, .int .u32 fi]) ∧ RStep w w' base L vp ve T pl (storeP T xs fk ps' l) (storeL T xs fk ps' l bs) := by
  unfold storeP storeL
  by_cases hk : fk = 0
  · have := hp.good.1 hk
    simp only [noF, Prod.mk.injEq] at this
    obtain ⟨rfl, rfl, rfl⟩ := this
    rw [if_pos rfl, if_pos rfl]
    exact rstore_fine w base L vp ve T pl ps l va u A n c bs xs ps' hlen hv hn hb hr hA hp h
  · rw [if_neg hk, if_neg hk]
    exact rstore_flt w base L vp ve T pl ps l va u A n c xs fk fv fi ps' hv hn hp (beq_eq_false_iff_ne.mpr hk) h
set_option maxRecDepth 100000 in
set_option maxHeartbeats 8000000 in
theorem rload_is (w : World) (base : Nat) (L : LocR) (vp ve : Value) (T : Tabs) (pl : Bool) (ps : List (Int × Int)) (l : List Int) (va n : Int) (u : Bool) (hv : R32 va) (hn : n ≤ 65536) (hn0 : -9223372036854775808 ≤ n) (xs : List Pc) (fk fv fi : Int) (ps' : List (Int × Int)) (hp : Pcs T l u false (!pl) ps va n xs (fk, fv, fi) ps') (h : RmAt w base L vp ve T pl ps l) :
    Calls Try.prog 72 #[.pointer (some ⟨L.m, 0, none⟩), .int .u32 va, .int .i64 n, .bool u] w fun e w' => ∃ A c, e = .returned (.tuple #[.slice A (loadL l xs).length c, .agg #[.int .i64 fk, .int .u32 fv, .int .u32 fi]]) ∧ RStep w w' base L vp ve T pl ps' l ∧ w'.ownsRow w.heap.size 5 1 (.slice A (loadL l xs).length c) (loadL l xs).length (nums .u8 (loadL l xs)) := by
  have M := Aside0.mk h
  have hfit : ∀ p ∈ xs, 0 ≤ p.2.1 ∧ p.2.1.toNat + p.2.2 ≤ l.length := fun p hq => ⟨(hp.r hv p hq).2.1.1, hp.fitN hv p hq⟩
  have hrd := addrL_read xs l hfit
  have ham := addrL_mem hfit
  have hsum := hp.sum
  have BX := box1 w (.cells #[.int .i64 0, .int .u32 0, .int .u32 0] 47 (0, 0))
  obtain ⟨W, hW⟩ : ∃ W, w.alloc (.cells #[.int .i64 0, .int .u32 0, .int .u32 0] 47 (0, 0)) = W := ⟨_, rfl⟩
  rw [hW] at BX
  have Z := Aside0.mk BX.2
  have BB := Aside0.mk BX.1
  have MW := Aside0.mk (M.out.then BX.1)
  have PC := rplaces_is W base L vp ve T pl ps l va n u false hv hn hn0 xs fk fv fi ps' hp MW.out
  obtain ⟨ad, had⟩ : ∃ ad, addrL xs = ad := ⟨_, rfl⟩
  rw [had] at PC hrd ham
  obtain ⟨bs, hbs⟩ : ∃ bs, loadL l xs = bs := ⟨_, rfl⟩
  rw [hbs] at hrd hsum ⊢
  have hlen : bs.length = ad.length := by rw [← hrd, List.length_map]
  obtain ⟨m, hm⟩ : ∃ m, ad.length = m := ⟨_, rfl⟩
  rw [hm] at PC hlen
  have hl2 : bs.length = m := hlen
  rw [hl2]
  have PC := Aside0.mk PC
  have HX := Aside0.mk (And.intro hm (And.intro ham (And.intro hl2 (And.intro hrd (show m ≤ 65536 by omega)))))
  clear h BX hv hp hfit hrd ham had hbs hlen hm hl2 hsum hn hn0
  go_enter Try.func72, Try.ntmps72
  go_wp2_with (first
    | (go_at_call 70; (with_reducible refine (PC.out).mono ?_); rintro e w2 ⟨A', c', rfl, P⟩; have PL := Aside0.mk P; have S := Aside0.mk (RStep.after BB.out P.rstep); have Z := Aside0.mk (P.rstep.box MW.out Z.out (by unfold rTy; decide)); clear P))
  obtain ⟨vp2, ve2, m2, n1, n2, of2⟩ := PL.out.at_
  have bl := below_alloc (Below.refl _ w2) (.cells #[.int .i64 fk, .int .u32 fv, .int .u32 fi] 47 (0, 0))
  have y := heap_alloc_new w2 (.cells #[.int .i64 fk, .int .u32 fv, .int .u32 fi] 47 (0, 0))
  have Zn := Aside0.mk (row_then Z.out bl)
  have Sn := Aside0.mk (S.out.then bl)
  have MV := Aside0.mk (m2.then bl)
  have ov := own_then PL.out.row bl
  rw [HX.out.1] at ov
  have OV := Aside0.mk ov
  have hzl := (Array.getElem?_eq_some_iff.1 Z.out).1
  have hne : ¬ w2.heap.size = w.heap.size := by omega
  have HWV := Aside0.mk (show w.heap.size ≤ (w2.alloc (.cells #[.int .i64 fk, .int .u32 fv, .int .u32 fi] 47 (0, 0))).heap.size by have := bl.size; omega)
  clear m2 n1 n2 of2 bl ov hzl
  generalize w2.alloc (.cells #[.int .i64 fk, .int .u32 fv, .int .u32 fi] 47 (0, 0)) = V at *
  have Y := Aside0.mk y
  clear y
  go_loopw [12, 25] (fun o i wr => ∃ j : Nat, j ≤ m ∧ i = .int .i64 j ∧ Aside0 (Below V.heap.size V wr) ∧ Aside0 (wr.ownsRow V.heap.size 5 1 o j (nums .u8 (bs.take j)))) (fun _ i _ => m - (intOf i).toNat)
  case atStart => exact ⟨0, Nat.zero_le _, rfl, ⟨Below.refl _ _⟩, ⟨World.ownsRow_nil _ _ _ _⟩⟩
  case round =>
    obtain ⟨j, hj, rfl, B, O⟩ := hrel
    by_cases hjm : j = m
    · obtain ⟨A1, c1, rfl⟩ := own_val O.out
      have ho := O.out
      have htk : bs.take j = bs := List.take_of_length_le (by rw [HX.out.2.2.1]; omega)
      rw [htk] at ho
      have HTL := Aside0.mk hjm
      have HO := Aside0.mk ho
      have Y1 := Aside0.mk (row_then Y.out B.out)
      have Z1 := Aside0.mk (row_then Zn.out B.out)
      have y0 := cell_of_row _ _ 0 _ _ _ Y1.out
      have y1 := cell_of_row _ _ 1 _ _ _ Y1.out
      have y2 := cell_of_row _ _ 2 _ _ _ Y1.out
      have z0 := cell_of_row _ _ 0 _ _ _ Z1.out
      have z1 := cell_of_row _ _ 1 _ _ _ Z1.out
      have z2 := cell_of_row _ _ 2 _ _ _ Z1.out
      have g0 := frozen_of_row _ _ 0 _ _ Z1.out
      have g1 := frozen_of_row _ _ 1 _ _ Z1.out
      have g2 := frozen_of_row _ _ 2 _ _ Z1.out
      simp only [List.getElem?_toArray, List.getElem?_cons_zero, List.getElem?_cons_succ] at y0 y1 y2 z0 z1 z2
      have hkl : ¬ (j : Int) < m := by omega
      have hkl2 : ¬ j < m := by omega
      clear ho htk hjm
      go_wp2
      go_region
      all_goals (
        go_wp2
        refine bodyPost_ret (results_tc rfl _ _ (w.heap.size) 47 #[.int .i64 fk, .int .u32 fv, .int .u32 fi] (0, 0) _ rfl (flt3_put Z1.out _ _ _) Try.underlying47 rfl infoF) rfl ⟨A1, c1, by rw [← HTL.out]; rfl, RStep.put3 (Sn.out.then B.out) (Nat.le_refl _) Z1.out (by unfold rTy; decide) _ _ _, ?_⟩
        have q := HO.out
        rw [HTL.out] at q
        exact own_less (own_put3 q Z1.out (by decide) _ _ _) HWV.out)
    · have hj' : j < m := by omega
      have hjl : (j : Int) < m := by omega
      have hjb : j < 65537 := by have := HX.out.2.2.2.2; omega
      obtain ⟨b, rfl, hbl, hc⟩ := num_cell OV.out (by omega)
      have cA := (B.out.cell (p := ⟨b, j, none⟩) hbl).trans (hc j hj')
      have hmem : ad.getD j 0 ∈ ad := by
        have hkl : j < ad.length := by have := HX.out.1; omega
        rw [List.getD_eq_getElem?_getD, List.getElem?_eq_getElem hkl]; exact List.getElem_mem hkl
      have hrg := HX.out.2.1 _ hmem
      obtain ⟨a, ha⟩ : ∃ a : Nat, (a : Int) = ad.getD j 0 := ⟨(ad.getD j 0).toNat, Int.toNat_of_nonneg hrg.1⟩
      have hal : a < l.length := by have := hrg.2; rw [← ha] at this; simpa using this
      have hm24 : l.length ≤ 16777216 := MV.out.ram.2.2.2.2
      have hnx : bs.take (j + 1) = bs.take j ++ [l.getD a 0] := by
        have h1 : j < ad.length := by have := HX.out.1; omega
        have h2 : j < bs.length := by have := HX.out.2.2.1; omega
        rw [List.take_add_one, List.getElem?_eq_getElem h2]
        have e1 : ad.getD j 0 = ad[j] := by rw [List.getD_eq_getElem?_getD, List.getElem?_eq_getElem h1]; rfl
        have e2 : bs[j] = l.getD a 0 := by
          have e3 : bs[j]? = ((ad.map fun a => l.getD a.toNat 0))[j]? := by rw [HX.out.2.2.2.1]
          rw [List.getElem?_eq_getElem h2, List.getElem?_map, List.getElem?_eq_getElem h1] at e3
          simp only [Option.map_some, Option.some.injEq] at e3
          rw [e3, ← e1, ← ha, Int.toNat_natCast]
        rw [e2]; rfl
      rw [← ha] at cA
      have M4 := Aside0.mk (MV.out.then B.out)
      have cR : wr.cell? ⟨L.m, 0, none⟩ = some (.pointer (some ⟨L.r, 0, none⟩)) := M4.out.cell 0
      obtain ⟨-, hcap, cF⟩ := M4.out.ram.field
      have cO := M4.out.ram.byte a hal
      have HNX := Aside0.mk hnx
      have HJ := Aside0.mk hj'
      have hjl2 : (bs.take j).length = j := by rw [List.length_take]; have := HX.out.2.2.1; omega
      have hbl2 : ((bs.take j).length + 1) * 1 ≤ 140737488355328 := by rw [hjl2]; omega
      have hro : wr.ownsRow V.heap.size 5 1 u12 (bs.take j).length (nums .u8 (bs.take j)) := by rw [hjl2]; exact O.out
      have HRO := Aside0.mk hro
      have HJL := Aside0.mk hjl2
      have HBL := Aside0.mk hbl2
      clear hro hjl2 hbl2
      clear hc hmem hrg ha hnx hjm
      generalize l.getD a 0 = yy at *
      go_wp2_with (first
        | (at_builtin; refine print_append_num (w0 := V) V.heap.size rfl (.tmp 29) (.tmp 40) 22 5 .u8 1 rfl Try.underlying22 info5 (by decide) u12 (bs.take j) yy rfl (by simp [Act.eval]) HRO.out B.out B.out.size HBL.out ?_; intro o1 w1 ho1 hb1 hg1 hat1; rw [List.length_append, HJL.out] at ho1; have O1 := Aside0.mk ho1; have B1 := Aside0.mk hb1; clear ho1 hb1 hg1 hat1))
      go_roundw
      case rel => exact ⟨j + 1, HJ.out, by go_num, B1, ⟨by rw [HNX.out]; exact O1.out⟩⟩
      case measure => have := HJ.out; simp [intOf]; omega
set_option maxRecDepth 100000 in
theorem rbytes_call (w : World) (x n : Int) (hx : R32 x) :
    Calls Try.prog 46 #[.int .u32 x, .int .i64 n] w fun e w' => ∃ A c, e = .returned (.slice A (szI n).toNat c) ∧ w'.ownsRow w.heap.size 5 1 (.slice A (szI n).toNat c) (szI n).toNat (nums .u8 (byL x (szI n).toNat)) ∧ Below w.heap.size w w' := by
  have hsz := szI_le n
  obtain ⟨k, hk⟩ : ∃ k : Nat, szI n = k := ⟨(szI n).toNat, by omega⟩
  have hke : (n ≤ k ∨ k = 4) ∧ (∀ j : Nat, j < k → (j : Int) < n) := by
    unfold szI at hk
    by_cases h0 : n < 0
    · rw [if_pos h0, if_neg (by decide)] at hk
      exact ⟨.inl (by omega), fun j hj => by omega⟩
    · rw [if_neg h0] at hk
      by_cases h4 : 4 < n
      · rw [if_pos h4] at hk
        exact ⟨.inr (by omega), fun j hj => by omega⟩
      · rw [if_neg h4] at hk
        exact ⟨.inl (by omega), fun j hj => by omega⟩
  rw [hk, Int.toNat_natCast]
  have HK := Aside0.mk (And.intro hke (show k ≤ 4 by omega))
  have HX := Aside0.mk hx
  clear hx hsz hk hke
  go_enter Try.func46, Try.ntmps46
  go_wp2_with fail
  go_loopw [0, 5, 6] (fun a b i wr => ∃ j : Nat, j ≤ k ∧ i = .int .i64 j ∧ a = .int .u32 (x / 2 ^ (8 * j)) ∧ Aside0 (Below w.heap.size w wr) ∧ Aside0 (wr.ownsRow w.heap.size 5 1 b j (nums .u8 (byL x j)))) (fun _ _ i _ => k - (intOf i).toNat)
  case atStart => exact ⟨0, Nat.zero_le _, rfl, by rw [Nat.mul_zero, Int.pow_zero, Int.ediv_one], ⟨Below.refl _ _⟩, ⟨World.ownsRow_nil _ _ _ _⟩⟩
  case round =>
    obtain ⟨j, hj, rfl, rfl, B, O⟩ := hrel
    by_cases hjk : j = k
    · obtain ⟨A1, c1, rfl⟩ := own_val O.out
      have HE := Aside0.mk hjk
      have HE2 := Aside0.mk (show byL x j = byL x k by rw [hjk])
      by_cases h4 : (j : Int) < n
      · have h5 : ¬ (j : Int) < 4 := by have := HK.out; omega
        clear hjk
        go_wp2
        go_ret
        refine ⟨A1, c1, by rw [← HE.out]; rfl, ?_, B.out⟩
        have q := O.out
        rw [HE2.out, HE.out] at q
        exact q
      · clear hjk
        go_wp2
        go_ret
        refine ⟨A1, c1, by rw [← HE.out]; rfl, ?_, B.out⟩
        have q := O.out
        rw [HE2.out, HE.out] at q
        exact q
    · have hj' : j < k := by omega
      have h4 : (j : Int) < n := HK.out.1.2 j hj'
      have h5 : (j : Int) < 4 := by have := HK.out.2; omega
      have h0 : 0 ≤ x / 2 ^ (8 * j) := Int.ediv_nonneg HX.out.1 (Int.le_of_lt (Int.pow_pos (by decide)))
      have hs := pow8_step x j
      have hb1 : x / 2 ^ (8 * j) < 4294967296 := by have h1 := Int.ediv_le_self (b := 2 ^ (8 * j)) HX.out.1; have h2 := HX.out.2; omega
      have HN := Aside0.mk (byL_next x j)
      have hlen : (byL x j).length = j := byL_length x j
      have HRO := Aside0.mk (show wr.ownsRow w.heap.size 5 1 u5 (byL x j).length (nums .u8 (byL x j)) by rw [hlen]; exact O.out)
      have HLE := Aside0.mk hlen
      clear hlen
      obtain ⟨z, hz⟩ : ∃ z, x / 2 ^ (8 * (j + 1)) = z := ⟨_, rfl⟩
      rw [hz] at hs
      have HZ := Aside0.mk hz
      obtain ⟨y, hy⟩ : ∃ y, x / 2 ^ (8 * j) = y := ⟨_, rfl⟩
      rw [hy] at h0 hb1 hs ⊢
      have HY := Aside0.mk hy
      have e1 : Int.tmod y 256 = y % 256 := Int.tmod_eq_emod_of_nonneg h0
      have e2 : Int.tdiv y 256 = z := by rw [Int.tdiv_eq_ediv_of_nonneg h0, hs]
      have e3 : z % 4294967296 = z := by omega
      have e4 : y % 256 % 256 = y % 256 := by omega
      have HJ := Aside0.mk hj'
      clear hz hy hjk
      go_wp2_with (first
        | (at_builtin; refine print_append_num (w0 := w) w.heap.size rfl (.tmp 16) (.tmp 20) 22 5 .u8 1 rfl Try.underlying22 info5 (by decide) u5 (byL x j) (y % 256) rfl (by simp [Act.eval]) HRO.out B.out B.out.size (by rw [HLE.out]; omega) ?_; intro o1 w1 ho1 hb1 hg1 hat1; rw [List.length_append, HLE.out] at ho1; have O1 := Aside0.mk ho1; have B1 := Aside0.mk hb1; clear ho1 hb1 hg1 hat1))
      go_roundw
      case rel => exact ⟨j + 1, HJ.out, by go_num, by first | (rw [HZ.out]; done) | (rw [HZ.out, e3]; done) | (rw [HZ.out, hs]; done), B1, ⟨by rw [HN.out, HY.out]; exact O1.out⟩⟩
      case measure => have := HJ.out; simp [intOf]; omega
end Go.Proofs.Ytiogbgjeimdgmaa.RefWalk
