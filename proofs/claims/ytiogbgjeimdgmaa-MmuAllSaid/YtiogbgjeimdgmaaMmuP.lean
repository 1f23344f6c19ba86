/- The MMU's Get, walked. -/
import Derived.Test.YtiogbgjeimdgmaaMmuO
namespace Go.Proofs.Ytiogbgjeimdgmaa.MmuWalk
open Go.RowKit Go.Proofs.Ytiogbgjeimdgmaa.Aid Go.Proofs.YtiogbgjeimdgmaaW.PrintWords Go.Proofs.YtiogbgjeimdgmaaW.PrintLast Go.Proofs.YtiogbgjeimdgmaaW.PrintMore
open Go.Proofs.Ytiogbgjeimdgmaa.RamWalk (RamAt Bytes leN info5 bytes_n leN_bounds own_cell)
open Go.Proofs.Ytiogbgjeimdgmaa.TlbWalk (TlbAt Kept2 putP dropP posP entP nil2 own_some own_val own_then)
attribute [local go_sem] max2_int min2_int max_two min_two max_three min_three max_four min_four   -- for this text's walks alone
set_option linter.unusedVariables false
set_option linter.unusedSimpArgs false
theorem shl_int (y : Int) (j : Nat) (hj : j < 4) (h0 : 0 ≤ y) (h1 : y < 256) : y * 2 ^ (8 * j) % 4294967296 = shl .u32 y (8 * (j : Int)) := by
  obtain ⟨m, rfl⟩ : ∃ m : Nat, y = m := ⟨y.toNat, by omega⟩
  rw [shl_at m j (by omega) (by omega)]
  have : j = 0 ∨ j = 1 ∨ j = 2 ∨ j = 3 := by omega
  rcases this with rfl | rfl | rfl | rfl <;> omega
set_option maxRecDepth 100000 in
set_option maxHeartbeats 4000000 in
theorem mget_call (w : World) (base : Nat) (L : Loc) (v : Value) (T : Tabs) (ps : List (Int × Int)) (l : List Int) (va n : Int) (u : Bool) (hv : R32 va) (h : MmuAt w base L v T ps l) :
    Calls Try.prog 29 #[.pointer (some ⟨L.m, 0, none⟩), .int .u32 va, .int .i64 n, .bool u] w fun e w' => ∃ xs fk fv fi ps', Pcs T l u false true ps va (szI n) xs (fk, fv, fi) ps' ∧ e = .returned (.tuple #[.int .u32 (leN (loadL l xs)), .agg #[.int .i64 fk, .int .u32 fv, .int .u32 fi]]) ∧ MStep w w' base L v T ps' l := by
  have M := Aside0.mk h
  have HB := Aside0.mk h.by_
  have BX := box1 w (.cells #[.int .i64 0, .int .u32 0, .int .u32 0] 47 (0, 0))
  obtain ⟨W, hW⟩ : ∃ W, w.alloc (.cells #[.int .i64 0, .int .u32 0, .int .u32 0] 47 (0, 0)) = W := ⟨_, rfl⟩
  rw [hW] at BX
  have Z := Aside0.mk BX.2
  have BB := Aside0.mk BX.1
  have hsz := szI_le n
  have LC := Aside0.mk (load_call W base L v T ps l va (szI n) u hv (by omega) (by omega) (M.out.then BX.1))
  obtain ⟨n1, hn1⟩ : ∃ n1, (if n < 0 then 0 else n) = n1 := ⟨_, rfl⟩
  obtain ⟨n2, hn2⟩ : ∃ n2, szI n = n2 := ⟨_, rfl⟩
  have hn3 : (if 4 < n1 then 4 else n1) = n2 := by rw [← hn1, ← hn2]; rfl
  rw [hn2] at LC hsz
  have HN := Aside0.mk hn2
  have HZ := Aside0.mk hsz
  clear h BX hv hn2 hsz
  go_enter Try.func29, Try.ntmps29
  go_wp2_with (first
    | (go_at_call 34; (with_reducible refine (LC.out).mono ?_); rintro e w2 ⟨A, c, xs, fk, fv, fi, ps2, hp, rfl, s, ho⟩; have HP := Aside0.mk hp; have S := Aside0.mk (MStep.after BB.out s); have HO := Aside0.mk ho; have Z := Aside0.mk (box_keep M.out Z.out (Nat.le_refl _) s); clear hp s ho))
  have bl := below_alloc (Below.refl _ w2) (.cells #[.int .i64 fk, .int .u32 fv, .int .u32 fi] 47 (0, 0))
  have y := heap_alloc_new w2 (.cells #[.int .i64 fk, .int .u32 fv, .int .u32 fi] 47 (0, 0))
  have Zn := Aside0.mk (row_then Z.out bl)
  have Sn := Aside0.mk (S.out.then bl)
  have OV := Aside0.mk (own_then HO.out bl)
  have hzl := (Array.getElem?_eq_some_iff.1 Z.out).1
  have hne : ¬ w2.heap.size = w.heap.size := by omega
  clear bl hzl
  generalize w2.alloc (.cells #[.int .i64 fk, .int .u32 fv, .int .u32 fi] 47 (0, 0)) = V at *
  have HB2 := Aside0.mk (loadL_bytes HB.out xs)
  have HL := Aside0.mk (show (loadL l xs).length ≤ 4 by have := HP.out.sum; have := HZ.out; omega)
  obtain ⟨bs, hbs⟩ : ∃ bs, loadL l xs = bs := ⟨_, rfl⟩
  have o1 := OV.out
  have o2 := HB2.out
  have o3 := HL.out
  rw [hbs] at o1 o2 o3
  have OV := Aside0.mk o1
  have HB2 := Aside0.mk o2
  have HL := Aside0.mk o3
  clear o1 o2 o3
  rw [hbs]
  have HBS := Aside0.mk hbs
  clear hbs
  have Y := Aside0.mk y
  have y0 := cell_of_row _ _ 0 _ _ _ Y.out
  have y1 := cell_of_row _ _ 1 _ _ _ Y.out
  have y2 := cell_of_row _ _ 2 _ _ _ Y.out
  have z0 := cell_of_row _ _ 0 _ _ _ Zn.out
  have z1 := cell_of_row _ _ 1 _ _ _ Zn.out
  have z2 := cell_of_row _ _ 2 _ _ _ Zn.out
  have g0 := frozen_of_row _ _ 0 _ _ Zn.out
  have g1 := frozen_of_row _ _ 1 _ _ Zn.out
  have g2 := frozen_of_row _ _ 2 _ _ Zn.out
  simp only [List.getElem?_toArray, List.getElem?_cons_zero, List.getElem?_cons_succ] at y0 y1 y2 z0 z1 z2
  clear y
  go_loopw [12, 27] (fun x i wr => ∃ j : Nat, j ≤ bs.length ∧ i = .int .i64 j ∧ x = .int .u32 (leN (bs.take j)) ∧ V = wr) (fun _ i _ => bs.length - (intOf i).toNat)
  case atStart => exact ⟨0, Nat.zero_le _, rfl, rfl, rfl⟩
  case round =>
    obtain ⟨j, hj, rfl, rfl, rfl⟩ := hrel
    by_cases hjn : j = bs.length
    · subst hjn
      go_wp2
      go_region
      go_wp2
      refine bodyPost_ret (results_tc rfl _ _ (w.heap.size) 47 #[.int .i64 fk, .int .u32 fv, .int .u32 fi] (0, 0) _ rfl (flt3_put Zn.out _ _ _) Try.underlying47 rfl infoF) rfl ⟨xs, fk, fv, fi, ps2, by rw [HN.out]; exact HP.out, by rw [HBS.out, List.take_length]; rfl, MStep.put3 Sn.out (Nat.le_refl _) Zn.out (by unfold mTy; decide) _ _ _⟩
    · have hj' : j < bs.length := by omega
      obtain ⟨m0, hm0⟩ : ∃ m0, bs.length = m0 + 1 := ⟨bs.length - 1, by omega⟩
      obtain ⟨b, cb, hb⟩ := own_some (n := m0) (by have := OV.out; rw [hm0] at this; exact this)
      simp only [Value.slice.injEq] at hb
      obtain ⟨rfl, -, -⟩ := hb
      have cj := own_cell OV.out hj'
      have hy := HB2.out.get j
      have gs := get_step bs HB2.out j hj' HL.out
      have hj4 : j < 4 := by have := HL.out; omega
      have hX := leN_bounds (bs.take j) (HB2.out.take j)
      have HJ := Aside0.mk hj'
      obtain ⟨X, hX0⟩ : ∃ X, leN (bs.take j) = X := ⟨_, rfl⟩
      obtain ⟨X', hX1⟩ : ∃ X, leN (bs.take (j + 1)) = X := ⟨_, rfl⟩
      rw [hX0, hX1] at gs
      rw [hX0]
      generalize bs.getD j 0 = yy at *
      rw [← shl_int yy j hj4 hy.1 hy.2] at gs
      have HX1 := Aside0.mk hX1
      clear hX hX0 hX1 hm0 hj'
      go_wp2
      go_roundw
      case rel => exact ⟨j + 1, HJ.out, by go_num, by rw [HX1.out], trivial⟩
      case measure => have := HJ.out; simp [intOf]; omega
end Go.Proofs.Ytiogbgjeimdgmaa.MmuWalk
