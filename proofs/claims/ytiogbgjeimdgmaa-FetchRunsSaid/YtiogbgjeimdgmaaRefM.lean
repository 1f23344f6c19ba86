/- MmuDoes: a call on both, kind by kind. -/
import Derived.Test.YtiogbgjeimdgmaaRefL
namespace Go.Proofs.Ytiogbgjeimdgmaa.RefWalk
open Go.RowKit Go.Proofs.Ytiogbgjeimdgmaa.Aid Go.Proofs.YtiogbgjeimdgmaaW.PrintWords Go.Proofs.YtiogbgjeimdgmaaW.PrintLast Go.Proofs.YtiogbgjeimdgmaaW.PrintMore
open Go.Proofs.Ytiogbgjeimdgmaa.MmuWalk (Chg R32 Flt fltV noF flt infoF Tabs row_ty own_keep two_ty box1 row_then flt3_put Pc Pcs Pcs.det Pcs.sum foot mine MmuAt MStep NextRow mTy mget_call load_call mput_call store_call probe_call peek_call peekF mset_call mclear_call mdrop_call loadL loadL_bytes szI szI_le number_call storeP storeL byL byL_length byL_bytes findF)
open Go.Proofs.Ytiogbgjeimdgmaa.RamWalk (Bytes leN own_cell put_i put_bus_i putL putL_length putL_bytes)
open Go.Proofs.Ytiogbgjeimdgmaa.TlbWalk (RefAt own_then own_val own_some dropP)
open Go.Proofs.Ytiogbgjeimdgmaa.MmuWalk (dropP_mem)
attribute [local go_sem] max2_int min2_int max_two min_two max_three min_three max_four min_four   -- for this text's walks alone
set_option linter.unusedVariables false
set_option linter.unusedSimpArgs false
theorem oTy_call : oTy 92 := by unfold oTy mTy rTy; decide
theorem mget_is (w : World) (base : Nat) (L : LocR) (v : Value) (T : Tabs) (ps : List (Int × Int)) (l : List Int) (va n : Int) (u : Bool) (hv : R32 va) (xs : List Pc) (fk fv fi : Int) (ps' : List (Int × Int)) (hp : Pcs T l u false true ps va (szI n) xs (fk, fv, fi) ps') (h : MmuAt w base L v T ps l) :
    Calls Try.prog 29 #[.pointer (some ⟨L.m, 0, none⟩), .int .u32 va, .int .i64 n, .bool u] w fun e w' => e = .returned (.tuple #[.int .u32 (leN (loadL l xs)), .agg #[.int .i64 fk, .int .u32 fv, .int .u32 fi]]) ∧ MStep w w' base L v T ps' l :=
  (mget_call w base L v T ps l va n u hv h).mono fun e w' ⟨ys, gk, gv, gi, ps2, h1, h2, s⟩ => by
    obtain ⟨rfl, h5, rfl⟩ := hp.det h1
    simp only [Prod.mk.injEq] at h5
    obtain ⟨rfl, rfl, rfl⟩ := h5
    exact ⟨h2, s⟩
theorem mload_is (w : World) (base : Nat) (L : LocR) (v : Value) (T : Tabs) (ps : List (Int × Int)) (l : List Int) (va n : Int) (u : Bool) (hv : R32 va) (hn : n ≤ 65536) (hn0 : -9223372036854775808 ≤ n) (xs : List Pc) (fk fv fi : Int) (ps' : List (Int × Int)) (hp : Pcs T l u false true ps va n xs (fk, fv, fi) ps') (h : MmuAt w base L v T ps l) :
    Calls Try.prog 34 #[.pointer (some ⟨L.m, 0, none⟩), .int .u32 va, .int .i64 n, .bool u] w fun e w' => ∃ A c, e = .returned (.tuple #[.slice A (loadL l xs).length c, .agg #[.int .i64 fk, .int .u32 fv, .int .u32 fi]]) ∧ MStep w w' base L v T ps' l ∧ w'.ownsRow w.heap.size 5 1 (.slice A (loadL l xs).length c) (loadL l xs).length (nums .u8 (loadL l xs)) :=
  (load_call w base L v T ps l va n u hv hn hn0 h).mono fun e w' ⟨A, c, ys, gk, gv, gi, ps2, h1, h2, s, o⟩ => by
    obtain ⟨rfl, h5, rfl⟩ := hp.det h1
    simp only [Prod.mk.injEq] at h5
    obtain ⟨rfl, rfl, rfl⟩ := h5
    exact ⟨A, c, h2, s, o⟩
theorem mprobe_is (w : World) (base : Nat) (L : LocR) (v : Value) (T : Tabs) (ps : List (Int × Int)) (l : List Int) (va n : Int) (u wt : Bool) (hv : R32 va) (hn : n ≤ 65536) (hn0 : -9223372036854775808 ≤ n) (xs : List Pc) (fk fv fi : Int) (ps' : List (Int × Int)) (hp : Pcs T l u wt true ps va n xs (fk, fv, fi) ps') (h : MmuAt w base L v T ps l) :
    Calls Try.prog 35 #[.pointer (some ⟨L.m, 0, none⟩), .int .u32 va, .int .i64 n, .bool u, .bool wt] w fun e w' => e = .returned (.agg #[.int .i64 fk, .int .u32 fv, .int .u32 fi]) ∧ MStep w w' base L v T ps' l :=
  (probe_call w base L v T ps l va n u wt hv hn hn0 h).mono fun e w' ⟨ys, f, ps2, h1, h2, s⟩ => by
    obtain ⟨rfl, rfl, rfl⟩ := hp.det h1
    exact ⟨h2, s⟩
set_option maxRecDepth 100000 in
set_option maxHeartbeats 8000000 in
theorem does_get (w0 WF : World) (F : Nat → Prop) (w : World) (L R : LocR) (v vp ve : Value) (T : Tabs) (pl : Bool) (ps qs : List (Int × Int)) (l : List Int) (va x n : Int) (u wr : Bool) (A : Option Addr) (nb cb : Nat) (t1 t2 t3 t4 t5 : Int) (h : DU w0 WF F w L R v vp ve T ps l T pl qs l) (hv : R32 va) (xs : List Pc) (fk fv fi : Int) (ps' qs' : List (Int × Int)) (p1 : Pcs T l u false true ps va (szI n) xs (fk, fv, fi) ps') (p2 : Pcs T l u false (!pl) qs va (szI n) xs (fk, fv, fi) qs') :
    Calls Try.prog 51 #[.pointer (some ⟨L.r, 0, none⟩), .pointer (some ⟨L.m, 0, none⟩), .pointer (some ⟨R.m, 0, none⟩), .agg #[.int .i64 0, .int .u32 va, .int .u32 x, .int .i64 n, .bool u, .bool wr, .slice A nb cb, .int .u32 t1, .int .u32 t2, .int .u32 t3, .int .u32 t4, .int .u32 t5]] w fun e w' => e = .returned (.bool true) ∧ ∃ v' vp' ve', DU w0 WF F w' L R v' vp' ve' T ps' l T pl qs' l := by
  have BX := box1 w (.cells #[.int .i64 0, .int .u32 va, .int .u32 x, .int .i64 n, .bool u, .bool wr, .slice A nb cb, .int .u32 t1, .int .u32 t2, .int .u32 t3, .int .u32 t4, .int .u32 t5] 92 (0, 0))
  obtain ⟨W, hW⟩ : ∃ W, w.alloc (.cells #[.int .i64 0, .int .u32 va, .int .u32 x, .int .i64 n, .bool u, .bool wr, .slice A nb cb, .int .u32 t1, .int .u32 t2, .int .u32 t3, .int .u32 t4, .int .u32 t5] 92 (0, 0)) = W := ⟨_, rfl⟩
  rw [hW] at BX
  have X := Aside0.mk BX.2
  have BB := Aside0.mk BX.1
  have D := Aside0.mk (h.then BX.1)
  have d0 := cell_of_row _ _ 0 _ _ _ X.out
  have d1 := cell_of_row _ _ 1 _ _ _ X.out
  have d2 := cell_of_row _ _ 2 _ _ _ X.out
  have d3 := cell_of_row _ _ 3 _ _ _ X.out
  have d4 := cell_of_row _ _ 4 _ _ _ X.out
  have d5 := cell_of_row _ _ 5 _ _ _ X.out
  have d6 := cell_of_row _ _ 6 _ _ _ X.out
  have d7 := cell_of_row _ _ 7 _ _ _ X.out
  have d8 := cell_of_row _ _ 8 _ _ _ X.out
  have d9 := cell_of_row _ _ 9 _ _ _ X.out
  have d10 := cell_of_row _ _ 10 _ _ _ X.out
  have d11 := cell_of_row _ _ 11 _ _ _ X.out
  simp only [List.getElem?_toArray, List.getElem?_cons_zero, List.getElem?_cons_succ] at d0 d1 d2 d3 d4 d5 d6 d7 d8 d9 d10 d11
  clear h BX
  have hz := szI_le n
  have PG := Aside0.mk (mget_is W _ L v T ps l va n u hv xs fk fv fi ps' p1 D.out.m)
  have LB := Aside0.mk (loadL_bytes D.out.m.by_ xs)
  have LL := Aside0.mk (show (loadL l xs).length ≤ 4 by have := p1.sum; omega)
  have PL := Aside0.mk (fun W' v2 (k : DU w0 WF F W' L R v2 vp ve T ps' l T pl qs l) => rload_is W' _ R vp ve T pl qs l va (szI n) u hv (by omega) (by omega) xs fk fv fi qs' p2 k.r)
  have RL := Aside0.mk (fun i (f : rmine R vp ve i) => rmine_lt D.out.r i f)
  clear hv p1 p2 hz
  go_enter Try.func51, Try.ntmps51
  go_wp2_with (first
    | (go_at_call 29; (with_reducible refine (PG.out).mono ?_); rintro e w2 ⟨rfl, s⟩; obtain ⟨v2, D2⟩ := D.out.stepM s; have X2 := D.out.boxM s X.out oTy_call; have D2 := Aside0.mk D2; have X2 := Aside0.mk X2; clear s))
  have bl := below_alloc (Below.refl _ w2) (.cells #[.int .i64 fk, .int .u32 fv, .int .u32 fi] 47 (0, 0))
  have Y2 := Aside0.mk (heap_alloc_new w2 (.cells #[.int .i64 fk, .int .u32 fv, .int .u32 fi] 47 (0, 0)))
  have D2 := Aside0.mk (D2.out.then bl)
  have X2 := Aside0.mk (row_then X2.out bl)
  clear bl d0 d1 d2 d3 d4 d5 d6 d7 d8 d9 d10 d11
  generalize w2.alloc (.cells #[.int .i64 fk, .int .u32 fv, .int .u32 fi] 47 (0, 0)) = V at *
  have hS : Aside0 (∀ W', Below V.heap.size V W' → W'.cell? ⟨w.heap.size, 1, none⟩ = some (.int .u32 va) ∧ W'.cell? ⟨w.heap.size, 3, none⟩ = some (.int .i64 n) ∧ W'.cell? ⟨w.heap.size, 4, none⟩ = some (.bool u)) := ⟨fun W' hW => ⟨cell_of_row _ _ 1 _ _ _ (row_then X2.out hW), cell_of_row _ _ 3 _ _ _ (row_then X2.out hW), cell_of_row _ _ 4 _ _ _ (row_then X2.out hW)⟩⟩
  have hS0 := hS.out V (Below.refl _ _)
  go_region_held3 (fun W' => W'.cell? ⟨w.heap.size, 1, none⟩ = some (.int .u32 va) ∧ W'.cell? ⟨w.heap.size, 3, none⟩ = some (.int .i64 n) ∧ W'.cell? ⟨w.heap.size, 4, none⟩ = some (.bool u))
    (first | exact hS.out _ (by assumption) | exact hS.out _ ((Below.refl _ _).drew) | exact hS.out _ (below_alloc ((Below.refl _ _).drew) _) | exact hS.out _ ((below_alloc (Below.refl _ _) _).drew) | exact hS3.out _ (Below.refl _ _) | exact hS3.out _ (below_alloc (Below.refl _ _) _) | exact hS4.out)
    (first
    | (go_at_call 73; (with_reducible refine (rsize_call _ n).mono ?_); rintro e w3 ⟨rfl, rfl⟩)
    | (go_at_call 72; (with_reducible refine (PL.out _ _ (D2.out.then ((Below.refl _ _).drew))).mono ?_); rintro e w3 ⟨A3, c3, rfl, s, o3⟩; have D3 := Aside0.mk ((D2.out.then ((Below.refl _ _).drew)).stepR s); have X3 := Aside0.mk ((D2.out.then ((Below.refl _ _).drew)).boxR s (row_then X2.out ((Below.refl _ _).drew)) oTy_call); have Y3 := Aside0.mk ((D2.out.then ((Below.refl _ _).drew)).boxR s (row_then Y2.out ((Below.refl _ _).drew)) oTy_flt); have O3 := Aside0.mk o3; have hS3 : Aside0 (∀ W', Below w3.heap.size w3 W' → W'.cell? ⟨w.heap.size, 1, none⟩ = some (.int .u32 va) ∧ W'.cell? ⟨w.heap.size, 3, none⟩ = some (.int .i64 n) ∧ W'.cell? ⟨w.heap.size, 4, none⟩ = some (.bool u)) := ⟨fun W' hW => ⟨cell_of_row _ _ 1 _ _ _ (row_then X3.out hW), cell_of_row _ _ 3 _ _ _ (row_then X3.out hW), cell_of_row _ _ 4 _ _ _ (row_then X3.out hW)⟩⟩; clear s o3)
    | (go_at_call 72; (with_reducible refine (PL.out _ _ (D2.out.then ((below_alloc (Below.refl _ _) _).drew))).mono ?_); rintro e w3 ⟨A3, c3, rfl, s, o3⟩; have D3 := Aside0.mk ((D2.out.then ((below_alloc (Below.refl _ _) (.cells #[.int .i64 0, .int .u32 0, .int .u32 0] 47 (0, 0))).drew)).stepR s); have X3 := Aside0.mk ((D2.out.then ((below_alloc (Below.refl _ _) (.cells #[.int .i64 0, .int .u32 0, .int .u32 0] 47 (0, 0))).drew)).boxR s (row_then X2.out ((below_alloc (Below.refl _ _) _).drew)) oTy_call); have Y3 := Aside0.mk ((D2.out.then ((below_alloc (Below.refl _ _) (.cells #[.int .i64 0, .int .u32 0, .int .u32 0] 47 (0, 0))).drew)).boxR s (row_then Y2.out ((below_alloc (Below.refl _ _) _).drew)) oTy_flt); have Z3 := Aside0.mk ((D2.out.then ((below_alloc (Below.refl _ _) (.cells #[.int .i64 0, .int .u32 0, .int .u32 0] 47 (0, 0))).drew)).boxR s (show (V.alloc (.cells #[.int .i64 0, .int .u32 0, .int .u32 0] 47 (0, 0))).drew.heap[V.heap.size]? = _ from heap_alloc_new V _) oTy_flt); have O3 := Aside0.mk o3; have hS3 : Aside0 (∀ W', Below w3.heap.size w3 W' → W'.cell? ⟨w.heap.size, 1, none⟩ = some (.int .u32 va) ∧ W'.cell? ⟨w.heap.size, 3, none⟩ = some (.int .i64 n) ∧ W'.cell? ⟨w.heap.size, 4, none⟩ = some (.bool u)) := ⟨fun W' hW => ⟨cell_of_row _ _ 1 _ _ _ (row_then X3.out hW), cell_of_row _ _ 3 _ _ _ (row_then X3.out hW), cell_of_row _ _ 4 _ _ _ (row_then X3.out hW)⟩⟩; have y0 := cell_of_row _ _ 0 _ _ _ Z3.out; have y1 := cell_of_row _ _ 1 _ _ _ Z3.out; have y2 := cell_of_row _ _ 2 _ _ _ Z3.out; have g0 := frozen_of_row _ _ 0 _ _ Z3.out; have g1 := frozen_of_row _ _ 1 _ _ Z3.out; have g2 := frozen_of_row _ _ 2 _ _ Z3.out; simp only [List.getElem?_toArray, List.getElem?_cons_zero, List.getElem?_cons_succ] at y0 y1 y2; have hS4 := Aside0.mk (by have q := hS3.out w3 (Below.refl _ _); have hne : w.heap.size ≠ V.heap.size := (by have := (Array.getElem?_eq_some_iff.1 X2.out).1; omega); have e : ∀ j, (fill3 w3 V.heap.size (.int .i64 fk) (.int .u32 fv) (.int .u32 fi)).cell? ⟨w.heap.size, j, none⟩ = w3.cell? ⟨w.heap.size, j, none⟩ := fun j => fill3_cell hne; exact (show (((w3.setCell ⟨V.heap.size, 0, none⟩ (.int .i64 fk)).setCell ⟨V.heap.size, 1, none⟩ (.int .u32 fv)).setCell ⟨V.heap.size, 2, none⟩ (.int .u32 fi)).cell? ⟨w.heap.size, 1, none⟩ = some (.int .u32 va) ∧ (((w3.setCell ⟨V.heap.size, 0, none⟩ (.int .i64 fk)).setCell ⟨V.heap.size, 1, none⟩ (.int .u32 fv)).setCell ⟨V.heap.size, 2, none⟩ (.int .u32 fi)).cell? ⟨w.heap.size, 3, none⟩ = some (.int .i64 n) ∧ (((w3.setCell ⟨V.heap.size, 0, none⟩ (.int .i64 fk)).setCell ⟨V.heap.size, 1, none⟩ (.int .u32 fv)).setCell ⟨V.heap.size, 2, none⟩ (.int .u32 fi)).cell? ⟨w.heap.size, 4, none⟩ = some (.bool u) from ⟨(e 1).trans q.1, (e 3).trans q.2.1, (e 4).trans q.2.2⟩)); clear s o3))
  · obtain ⟨vp3, ve3, d3, _, _⟩ := D3.out
    have bl := below_alloc (Below.refl _ w3) (.cells #[.int .i64 fk, .int .u32 fv, .int .u32 fi] 47 (0, 0))
    have D4 := Aside0.mk (d3.then bl)
    have Y4 := Aside0.mk (row_then Y3.out bl)
    have Z4 := Aside0.mk (heap_alloc_new w3 (.cells #[.int .i64 fk, .int .u32 fv, .int .u32 fi] 47 (0, 0)))
    have O4 := Aside0.mk (own_then O3.out bl)
    clear hS3 bl d3
    generalize w3.alloc (.cells #[.int .i64 fk, .int .u32 fv, .int .u32 fi] 47 (0, 0)) = V3 at *
    have x0 := cell_of_row _ _ 0 _ _ _ Y4.out
    have x1 := cell_of_row _ _ 1 _ _ _ Y4.out
    have x2 := cell_of_row _ _ 2 _ _ _ Y4.out
    have z0 := cell_of_row _ _ 0 _ _ _ Z4.out
    have z1 := cell_of_row _ _ 1 _ _ _ Z4.out
    have z2 := cell_of_row _ _ 2 _ _ _ Z4.out
    simp only [List.getElem?_toArray, List.getElem?_cons_zero, List.getElem?_cons_succ] at x0 x1 x2 z0 z1 z2
    have NB := Aside0.mk (number_call V3 A3 c3 (loadL l xs) (own_reads' O4.out) LB.out LL.out)
    go_wp2_with (first
      | (go_at_call 36; (with_reducible refine (NB.out).mono ?_); rintro e w5 ⟨rfl, rfl⟩))
    go_ret
    exact ⟨rfl, v2, vp3, ve3, D4.out⟩
  all_goals (
    obtain ⟨vp3, ve3, d3, _, _⟩ := D3.out
    have D4 : Aside0 (DU w0 WF F (((w3.setCell ⟨V.heap.size, 0, none⟩ (.int .i64 fk)).setCell ⟨V.heap.size, 1, none⟩ (.int .u32 fv)).setCell ⟨V.heap.size, 2, none⟩ (.int .u32 fi)) L R v2 vp3 ve3 T ps' l T pl qs' l) := ⟨d3.fill Z3.out oTy_flt D2.out.below.size (D2.out.notF (Nat.le_refl _)) _ _ _⟩
    have hne : w2.heap.size ≠ V.heap.size := by have := (Array.getElem?_eq_some_iff.1 Y2.out).1; omega
    have Y4 : Aside0 ((((w3.setCell ⟨V.heap.size, 0, none⟩ (.int .i64 fk)).setCell ⟨V.heap.size, 1, none⟩ (.int .u32 fv)).setCell ⟨V.heap.size, 2, none⟩ (.int .u32 fi)).heap[w2.heap.size]? = _) := ⟨(fill3_other w3 V.heap.size _ _ _ _ hne).trans Y3.out⟩
    have Z4 : Aside0 ((((w3.setCell ⟨V.heap.size, 0, none⟩ (.int .i64 fk)).setCell ⟨V.heap.size, 1, none⟩ (.int .u32 fv)).setCell ⟨V.heap.size, 2, none⟩ (.int .u32 fi)).heap[V.heap.size]? = _) := ⟨fill3_self Z3.out (.int .i64 fk) (.int .u32 fv) (.int .u32 fi)⟩
    have O4 : Aside0 (World.ownsRow (((w3.setCell ⟨V.heap.size, 0, none⟩ (.int .i64 fk)).setCell ⟨V.heap.size, 1, none⟩ (.int .u32 fv)).setCell ⟨V.heap.size, 2, none⟩ (.int .u32 fi)) _ _ _ _ _ _) := ⟨fill3_row O3.out Z3.out (by decide) (.int .i64 fk) (.int .u32 fv) (.int .u32 fi)⟩
    clear hS3 hS4 d3
    generalize (((w3.setCell ⟨V.heap.size, 0, none⟩ (.int .i64 fk)).setCell ⟨V.heap.size, 1, none⟩ (.int .u32 fv)).setCell ⟨V.heap.size, 2, none⟩ (.int .u32 fi)) = V3 at *
    have x0 := cell_of_row _ _ 0 _ _ _ Y4.out
    have x1 := cell_of_row _ _ 1 _ _ _ Y4.out
    have x2 := cell_of_row _ _ 2 _ _ _ Y4.out
    have z0 := cell_of_row _ _ 0 _ _ _ Z4.out
    have z1 := cell_of_row _ _ 1 _ _ _ Z4.out
    have z2 := cell_of_row _ _ 2 _ _ _ Z4.out
    simp only [List.getElem?_toArray, List.getElem?_cons_zero, List.getElem?_cons_succ] at x0 x1 x2 z0 z1 z2
    have NB := Aside0.mk (number_call V3 A3 c3 (loadL l xs) (own_reads' O4.out) LB.out LL.out)
    go_wp2_with (first
      | (go_at_call 36; (with_reducible refine (NB.out).mono ?_); rintro e w5 ⟨rfl, rfl⟩))
    go_ret
    exact ⟨rfl, v2, vp3, ve3, D4.out⟩
  )
set_option maxRecDepth 100000 in
set_option maxHeartbeats 8000000 in
theorem does_load (w0 WF : World) (F : Nat → Prop) (w : World) (L R : LocR) (v vp ve : Value) (T : Tabs) (pl : Bool) (ps qs : List (Int × Int)) (l : List Int) (va x n : Int) (u wr : Bool) (A : Option Addr) (nb cb : Nat) (t1 t2 t3 t4 t5 : Int) (h : DU w0 WF F w L R v vp ve T ps l T pl qs l) (hv : R32 va) (hn : n ≤ 1024) (hn0 : -9223372036854775808 ≤ n) (xs : List Pc) (fk fv fi : Int) (ps' qs' : List (Int × Int)) (p1 : Pcs T l u false true ps va n xs (fk, fv, fi) ps') (p2 : Pcs T l u false (!pl) qs va n xs (fk, fv, fi) qs') :
    Calls Try.prog 51 #[.pointer (some ⟨L.r, 0, none⟩), .pointer (some ⟨L.m, 0, none⟩), .pointer (some ⟨R.m, 0, none⟩), .agg #[.int .i64 2, .int .u32 va, .int .u32 x, .int .i64 n, .bool u, .bool wr, .slice A nb cb, .int .u32 t1, .int .u32 t2, .int .u32 t3, .int .u32 t4, .int .u32 t5]] w fun e w' => e = .returned (.bool true) ∧ ∃ v' vp' ve', DU w0 WF F w' L R v' vp' ve' T ps' l T pl qs' l := by
  have BX := box1 w (.cells #[.int .i64 2, .int .u32 va, .int .u32 x, .int .i64 n, .bool u, .bool wr, .slice A nb cb, .int .u32 t1, .int .u32 t2, .int .u32 t3, .int .u32 t4, .int .u32 t5] 92 (0, 0))
  obtain ⟨W, hW⟩ : ∃ W, w.alloc (.cells #[.int .i64 2, .int .u32 va, .int .u32 x, .int .i64 n, .bool u, .bool wr, .slice A nb cb, .int .u32 t1, .int .u32 t2, .int .u32 t3, .int .u32 t4, .int .u32 t5] 92 (0, 0)) = W := ⟨_, rfl⟩
  rw [hW] at BX
  have X := Aside0.mk BX.2
  have BB := Aside0.mk BX.1
  have D := Aside0.mk (h.then BX.1)
  have d0 := cell_of_row _ _ 0 _ _ _ X.out
  have d1 := cell_of_row _ _ 1 _ _ _ X.out
  have d2 := cell_of_row _ _ 2 _ _ _ X.out
  have d3 := cell_of_row _ _ 3 _ _ _ X.out
  have d4 := cell_of_row _ _ 4 _ _ _ X.out
  have d5 := cell_of_row _ _ 5 _ _ _ X.out
  have d6 := cell_of_row _ _ 6 _ _ _ X.out
  have d7 := cell_of_row _ _ 7 _ _ _ X.out
  have d8 := cell_of_row _ _ 8 _ _ _ X.out
  have d9 := cell_of_row _ _ 9 _ _ _ X.out
  have d10 := cell_of_row _ _ 10 _ _ _ X.out
  have d11 := cell_of_row _ _ 11 _ _ _ X.out
  simp only [List.getElem?_toArray, List.getElem?_cons_zero, List.getElem?_cons_succ] at d0 d1 d2 d3 d4 d5 d6 d7 d8 d9 d10 d11
  clear h BX
  have PG := Aside0.mk (mload_is W _ L v T ps l va n u hv (by omega) hn0 xs fk fv fi ps' p1 D.out.m)
  have PL := Aside0.mk (fun W' v2 (k : DU w0 WF F W' L R v2 vp ve T ps' l T pl qs l) => rload_is W' _ R vp ve T pl qs l va n u hv (by omega) hn0 xs fk fv fi qs' p2 k.r)
  have RL := Aside0.mk (fun i (f : rmine R vp ve i) => rmine_lt D.out.r i f)
  obtain ⟨bs, hbs⟩ : ∃ bs, loadL l xs = bs := ⟨_, rfl⟩
  rw [hbs] at PG PL
  obtain ⟨S, hS⟩ : ∃ S, S = strOfNums bs := ⟨_, rfl⟩
  have ST := Aside0.mk (fun (w : World) (A : Option Addr) (c : Nat) (h : ReadsInt w .u8 A bs.length bs) => (by rw [hS]; exact string_of_reads (P := Try.prog) Try.underlying22 Try.underlying5 Try.underlying9 h : (convert 22 9 (.slice A bs.length c)).run Try.prog w = .ok (.string S) w))
  clear hv p1 p2 hn hn0 hbs hS
  go_enter Try.func51, Try.ntmps51
  go_wp2_with (first
    | (go_at_call 34; (with_reducible refine (PG.out).mono ?_); rintro e w2 ⟨A2, c2, rfl, s, o2⟩; obtain ⟨v2, D2⟩ := D.out.stepM s; have X2 := D.out.boxM s X.out oTy_call; have bl := below_alloc (Below.refl _ w2) (.cells #[.int .i64 fk, .int .u32 fv, .int .u32 fi] 47 (0, 0)); have Y2 := Aside0.mk (heap_alloc_new w2 (.cells #[.int .i64 fk, .int .u32 fv, .int .u32 fi] 47 (0, 0))); have D2 := Aside0.mk (D2.then bl); have X2 := Aside0.mk (row_then X2 bl); have O2 := Aside0.mk (own_then o2 bl); have e1 := cell_of_row _ _ 1 _ _ _ X2.out; have e3 := cell_of_row _ _ 3 _ _ _ X2.out; have e4 := cell_of_row _ _ 4 _ _ _ X2.out; simp only [List.getElem?_toArray, List.getElem?_cons_zero, List.getElem?_cons_succ] at e1 e3 e4; clear s bl o2)
    | (go_at_call 72; (with_reducible refine (PL.out _ _ D2.out).mono ?_); rintro e w3 ⟨A3, c3, rfl, s, o3⟩; obtain ⟨vp3, ve3, D3, _, _⟩ := D2.out.stepR s; have Y3 := D2.out.boxR s Y2.out oTy_flt; have O23 := D2.out.rowR s RL.out O2.out; have bl := below_alloc (Below.refl _ w3) (.cells #[.int .i64 fk, .int .u32 fv, .int .u32 fi] 47 (0, 0)); have D3 := Aside0.mk (D3.then bl); have Y3 := Aside0.mk (row_then Y3 bl); have s1 := ST.out _ _ c2 (own_reads' (own_then O23 bl)); have s2 := ST.out _ _ c3 (own_reads' (own_then o3 bl)); have x0 := cell_of_row _ _ 0 _ _ _ Y3.out; have x1 := cell_of_row _ _ 1 _ _ _ Y3.out; have x2 := cell_of_row _ _ 2 _ _ _ Y3.out; simp only [List.getElem?_toArray, List.getElem?_cons_zero, List.getElem?_cons_succ] at x0 x1 x2; clear s bl o3 O23))
  go_ret
  exact ⟨rfl, v2, vp3, ve3, D3.out⟩
set_option maxRecDepth 100000 in
set_option maxHeartbeats 8000000 in
theorem does_clear (w0 WF : World) (F : Nat → Prop) (w : World) (L R : LocR) (v vp ve : Value) (T : Tabs) (pl : Bool) (ps qs : List (Int × Int)) (l : List Int) (va x n : Int) (u wr : Bool) (A : Option Addr) (nb cb : Nat) (t1 t2 t3 t4 t5 : Int) (h : DU w0 WF F w L R v vp ve T ps l T pl qs l)  :
    Calls Try.prog 51 #[.pointer (some ⟨L.r, 0, none⟩), .pointer (some ⟨L.m, 0, none⟩), .pointer (some ⟨R.m, 0, none⟩), .agg #[.int .i64 7, .int .u32 va, .int .u32 x, .int .i64 n, .bool u, .bool wr, .slice A nb cb, .int .u32 t1, .int .u32 t2, .int .u32 t3, .int .u32 t4, .int .u32 t5]] w fun e w' => e = .returned (.bool true) ∧ ∃ v' vp' ve', DU w0 WF F w' L R v' vp' ve' T [] l T pl [] l := by
  have BX := box1 w (.cells #[.int .i64 7, .int .u32 va, .int .u32 x, .int .i64 n, .bool u, .bool wr, .slice A nb cb, .int .u32 t1, .int .u32 t2, .int .u32 t3, .int .u32 t4, .int .u32 t5] 92 (0, 0))
  obtain ⟨W, hW⟩ : ∃ W, w.alloc (.cells #[.int .i64 7, .int .u32 va, .int .u32 x, .int .i64 n, .bool u, .bool wr, .slice A nb cb, .int .u32 t1, .int .u32 t2, .int .u32 t3, .int .u32 t4, .int .u32 t5] 92 (0, 0)) = W := ⟨_, rfl⟩
  rw [hW] at BX
  have X := Aside0.mk BX.2
  have BB := Aside0.mk BX.1
  have D := Aside0.mk (h.then BX.1)
  have d0 := cell_of_row _ _ 0 _ _ _ X.out
  have d1 := cell_of_row _ _ 1 _ _ _ X.out
  have d2 := cell_of_row _ _ 2 _ _ _ X.out
  have d3 := cell_of_row _ _ 3 _ _ _ X.out
  have d4 := cell_of_row _ _ 4 _ _ _ X.out
  have d5 := cell_of_row _ _ 5 _ _ _ X.out
  have d6 := cell_of_row _ _ 6 _ _ _ X.out
  have d7 := cell_of_row _ _ 7 _ _ _ X.out
  have d8 := cell_of_row _ _ 8 _ _ _ X.out
  have d9 := cell_of_row _ _ 9 _ _ _ X.out
  have d10 := cell_of_row _ _ 10 _ _ _ X.out
  have d11 := cell_of_row _ _ 11 _ _ _ X.out
  simp only [List.getElem?_toArray, List.getElem?_cons_zero, List.getElem?_cons_succ] at d0 d1 d2 d3 d4 d5 d6 d7 d8 d9 d10 d11
  clear h BX
  have PG := Aside0.mk (mclear_call W _ L v T ps l D.out.m)
  have PL := Aside0.mk (fun W' v2 (k : DU w0 WF F W' L R v2 vp ve T [] l T pl qs l) => (tclear_call W' _ R.t vp ve qs k.r.tlb))
  go_enter Try.func51, Try.ntmps51
  go_wp2_with (first
    | (go_at_call 30; (with_reducible refine (PG.out).mono ?_); rintro e w2 ⟨rfl, s⟩; obtain ⟨v2, D2⟩ := D.out.stepM s; have D2 := Aside0.mk D2; have e1 : w2.cell? ⟨R.m, 1, none⟩ = some (.pointer (some ⟨R.t, 0, none⟩)) := D2.out.r.cell 1; clear s)
    | (go_at_call 47; (with_reducible refine (PL.out _ _ D2.out).mono ?_); rintro e w3 ⟨rfl, s⟩; obtain ⟨vp3, ve3, D3, _, _⟩ := D2.out.stepR (D2.out.r.tlb_step s (fun p hp => by cases hp) List.nodup_nil); have D3 := Aside0.mk D3; clear s))
  go_ret
  exact ⟨rfl, v2, vp3, ve3, D3.out⟩
set_option maxRecDepth 100000 in
set_option maxHeartbeats 8000000 in
theorem does_other (w0 WF : World) (F : Nat → Prop) (w : World) (L R : LocR) (v vp ve : Value) (T : Tabs) (pl : Bool) (ps qs : List (Int × Int)) (l : List Int) (kd va x n : Int) (u wr : Bool) (A : Option Addr) (nb cb : Nat) (t1 t2 t3 t4 t5 : Int) (h : DU w0 WF F w L R v vp ve T ps l T pl qs l) (k0 : (kd == 0) = false) (k1 : (kd == 1) = false) (k2 : (kd == 2) = false) (k3 : (kd == 3) = false) (k4 : (kd == 4) = false) (k5 : (kd == 5) = false) (k6 : (kd == 6) = false) (k7 : (kd == 7) = false) (k8 : (kd == 8) = false) (k9 : (kd == 9) = false) :
    Calls Try.prog 51 #[.pointer (some ⟨L.r, 0, none⟩), .pointer (some ⟨L.m, 0, none⟩), .pointer (some ⟨R.m, 0, none⟩), .agg #[.int .i64 kd, .int .u32 va, .int .u32 x, .int .i64 n, .bool u, .bool wr, .slice A nb cb, .int .u32 t1, .int .u32 t2, .int .u32 t3, .int .u32 t4, .int .u32 t5]] w fun e w' => e = .returned (.bool true) ∧ ∃ v' vp' ve', DU w0 WF F w' L R v' vp' ve' T ps l T pl qs l := by
  have BX := box1 w (.cells #[.int .i64 kd, .int .u32 va, .int .u32 x, .int .i64 n, .bool u, .bool wr, .slice A nb cb, .int .u32 t1, .int .u32 t2, .int .u32 t3, .int .u32 t4, .int .u32 t5] 92 (0, 0))
  obtain ⟨W, hW⟩ : ∃ W, w.alloc (.cells #[.int .i64 kd, .int .u32 va, .int .u32 x, .int .i64 n, .bool u, .bool wr, .slice A nb cb, .int .u32 t1, .int .u32 t2, .int .u32 t3, .int .u32 t4, .int .u32 t5] 92 (0, 0)) = W := ⟨_, rfl⟩
  rw [hW] at BX
  have X := Aside0.mk BX.2
  have BB := Aside0.mk BX.1
  have D := Aside0.mk (h.then BX.1)
  have d0 := cell_of_row _ _ 0 _ _ _ X.out
  have d1 := cell_of_row _ _ 1 _ _ _ X.out
  have d2 := cell_of_row _ _ 2 _ _ _ X.out
  have d3 := cell_of_row _ _ 3 _ _ _ X.out
  have d4 := cell_of_row _ _ 4 _ _ _ X.out
  have d5 := cell_of_row _ _ 5 _ _ _ X.out
  have d6 := cell_of_row _ _ 6 _ _ _ X.out
  have d7 := cell_of_row _ _ 7 _ _ _ X.out
  have d8 := cell_of_row _ _ 8 _ _ _ X.out
  have d9 := cell_of_row _ _ 9 _ _ _ X.out
  have d10 := cell_of_row _ _ 10 _ _ _ X.out
  have d11 := cell_of_row _ _ 11 _ _ _ X.out
  simp only [List.getElem?_toArray, List.getElem?_cons_zero, List.getElem?_cons_succ] at d0 d1 d2 d3 d4 d5 d6 d7 d8 d9 d10 d11
  clear h BX
  go_enter Try.func51, Try.ntmps51
  go_wp2
  go_ret
  exact ⟨rfl, v, vp, ve, D.out⟩
set_option maxRecDepth 100000 in
set_option maxHeartbeats 8000000 in
theorem does_peek_f (w0 WF : World) (F : Nat → Prop) (w : World) (L R : LocR) (v vp ve : Value) (T : Tabs) (pl : Bool) (ps qs : List (Int × Int)) (l : List Int) (va x n : Int) (u wr : Bool) (A : Option Addr) (nb cb : Nat) (t1 t2 t3 t4 t5 : Int) (h : DU w0 WF F w L R v vp ve T ps l T pl qs l) (hv : R32 va) (hF : findF T ps l va 1 u false = findF T qs l va 1 u false) (pa fk fv fi : Int) (hf : findF T qs l va 1 u false = (pa, fk, fv, fi)) (hk : (fk == 0) = false) :
    Calls Try.prog 51 #[.pointer (some ⟨L.r, 0, none⟩), .pointer (some ⟨L.m, 0, none⟩), .pointer (some ⟨R.m, 0, none⟩), .agg #[.int .i64 5, .int .u32 va, .int .u32 x, .int .i64 n, .bool u, .bool wr, .slice A nb cb, .int .u32 t1, .int .u32 t2, .int .u32 t3, .int .u32 t4, .int .u32 t5]] w fun e w' => e = .returned (.bool true) ∧ ∃ v' vp' ve', DU w0 WF F w' L R v' vp' ve' T ps l T pl qs l := by
  have BX := box1 w (.cells #[.int .i64 5, .int .u32 va, .int .u32 x, .int .i64 n, .bool u, .bool wr, .slice A nb cb, .int .u32 t1, .int .u32 t2, .int .u32 t3, .int .u32 t4, .int .u32 t5] 92 (0, 0))
  obtain ⟨W, hW⟩ : ∃ W, w.alloc (.cells #[.int .i64 5, .int .u32 va, .int .u32 x, .int .i64 n, .bool u, .bool wr, .slice A nb cb, .int .u32 t1, .int .u32 t2, .int .u32 t3, .int .u32 t4, .int .u32 t5] 92 (0, 0)) = W := ⟨_, rfl⟩
  rw [hW] at BX
  have X := Aside0.mk BX.2
  have BB := Aside0.mk BX.1
  have D := Aside0.mk (h.then BX.1)
  have d0 := cell_of_row _ _ 0 _ _ _ X.out
  have d1 := cell_of_row _ _ 1 _ _ _ X.out
  have d2 := cell_of_row _ _ 2 _ _ _ X.out
  have d3 := cell_of_row _ _ 3 _ _ _ X.out
  have d4 := cell_of_row _ _ 4 _ _ _ X.out
  have d5 := cell_of_row _ _ 5 _ _ _ X.out
  have d6 := cell_of_row _ _ 6 _ _ _ X.out
  have d7 := cell_of_row _ _ 7 _ _ _ X.out
  have d8 := cell_of_row _ _ 8 _ _ _ X.out
  have d9 := cell_of_row _ _ 9 _ _ _ X.out
  have d10 := cell_of_row _ _ 10 _ _ _ X.out
  have d11 := cell_of_row _ _ 11 _ _ _ X.out
  simp only [List.getElem?_toArray, List.getElem?_cons_zero, List.getElem?_cons_succ] at d0 d1 d2 d3 d4 d5 d6 d7 d8 d9 d10 d11
  clear h BX
  have hpk : peekF T ps l va u = (0, fk, fv, fi) := by unfold peekF; rw [hF, hf, if_pos (by simpa using hk)]
  have PG := peek_call W _ L v T ps l va u hv D.out.m
  rw [hpk] at PG
  have PG := Aside0.mk PG
  have PL := Aside0.mk (fun W' v2 (k : DU w0 WF F W' L R v2 vp ve T ps l T pl qs l) => (by have q := rfind_nk W' _ R vp ve T pl qs l va 1 u false hv k.r; rw [show (((1 : Nat) : Int)) = 1 from rfl, hf] at q; exact q : Calls Try.prog 24 #[.pointer (some ⟨R.m, 0, none⟩), .int .u32 va, .int .i64 1, .bool u, .bool false, .bool false] W' fun e w' => e = .returned (.tuple #[.int .u32 pa, fltV (fk, fv, fi)]) ∧ Below W'.heap.size W' w'))
  unfold fltV at PG PL
  have hk2 : (fk != 0) = true := by rw [bne, hk]; rfl
  have hk3 : ¬ fk = 0 := by simpa using hk
  clear hv hF hf hpk
  go_enter Try.func51, Try.ntmps51
  go_wp2_with (first
    | (go_at_call 32; (with_reducible refine (PG.out).mono ?_); rintro e w2 ⟨rfl, s⟩; obtain ⟨v2, D2⟩ := D.out.stepM s; have X2 := D.out.boxM s X.out oTy_call; have bl := below_alloc (Below.refl _ w2) (.cells #[.int .i64 fk, .int .u32 fv, .int .u32 fi] 47 (0, 0)); have Y2 := Aside0.mk (heap_alloc_new w2 (.cells #[.int .i64 fk, .int .u32 fv, .int .u32 fi] 47 (0, 0))); have D2 := Aside0.mk (D2.then bl); have X2 := Aside0.mk (row_then X2 bl); have e1 := cell_of_row _ _ 1 _ _ _ X2.out; have e4 := cell_of_row _ _ 4 _ _ _ X2.out; simp only [List.getElem?_toArray, List.getElem?_cons_zero, List.getElem?_cons_succ] at e1 e4; clear s bl)
    | (go_at_call 24; (with_reducible refine (PL.out _ _ D2.out).mono ?_); rintro e w3 ⟨rfl, hb⟩; have bl := below_alloc hb (.cells #[.int .i64 fk, .int .u32 fv, .int .u32 fi] 47 (0, 0)); have D3 := Aside0.mk (D2.out.then bl); have Y3 := Aside0.mk (row_then Y2.out bl); have x0 := cell_of_row _ _ 0 _ _ _ Y3.out; have x1 := cell_of_row _ _ 1 _ _ _ Y3.out; have x2 := cell_of_row _ _ 2 _ _ _ Y3.out; simp only [List.getElem?_toArray, List.getElem?_cons_zero, List.getElem?_cons_succ] at x0 x1 x2; clear hb bl))
  go_ret
  exact ⟨rfl, v2, vp, ve, D3.out⟩
set_option maxRecDepth 100000 in
set_option maxHeartbeats 8000000 in
theorem does_peek_y (w0 WF : World) (F : Nat → Prop) (w : World) (L R : LocR) (v vp ve : Value) (T : Tabs) (pl : Bool) (ps qs : List (Int × Int)) (l : List Int) (va x n : Int) (u wr : Bool) (A : Option Addr) (nb cb : Nat) (t1 t2 t3 t4 t5 : Int) (h : DU w0 WF F w L R v vp ve T ps l T pl qs l) (hv : R32 va) (hF : findF T ps l va 1 u false = findF T qs l va 1 u false) (pa : Nat) (hf : findF T qs l va 1 u false = ((pa : Int), noF)) (hpa : pa < l.length) :
    Calls Try.prog 51 #[.pointer (some ⟨L.r, 0, none⟩), .pointer (some ⟨L.m, 0, none⟩), .pointer (some ⟨R.m, 0, none⟩), .agg #[.int .i64 5, .int .u32 va, .int .u32 x, .int .i64 n, .bool u, .bool wr, .slice A nb cb, .int .u32 t1, .int .u32 t2, .int .u32 t3, .int .u32 t4, .int .u32 t5]] w fun e w' => e = .returned (.bool true) ∧ ∃ v' vp' ve', DU w0 WF F w' L R v' vp' ve' T ps l T pl qs l := by
  have BX := box1 w (.cells #[.int .i64 5, .int .u32 va, .int .u32 x, .int .i64 n, .bool u, .bool wr, .slice A nb cb, .int .u32 t1, .int .u32 t2, .int .u32 t3, .int .u32 t4, .int .u32 t5] 92 (0, 0))
  obtain ⟨W, hW⟩ : ∃ W, w.alloc (.cells #[.int .i64 5, .int .u32 va, .int .u32 x, .int .i64 n, .bool u, .bool wr, .slice A nb cb, .int .u32 t1, .int .u32 t2, .int .u32 t3, .int .u32 t4, .int .u32 t5] 92 (0, 0)) = W := ⟨_, rfl⟩
  rw [hW] at BX
  have X := Aside0.mk BX.2
  have BB := Aside0.mk BX.1
  have D := Aside0.mk (h.then BX.1)
  have d0 := cell_of_row _ _ 0 _ _ _ X.out
  have d1 := cell_of_row _ _ 1 _ _ _ X.out
  have d2 := cell_of_row _ _ 2 _ _ _ X.out
  have d3 := cell_of_row _ _ 3 _ _ _ X.out
  have d4 := cell_of_row _ _ 4 _ _ _ X.out
  have d5 := cell_of_row _ _ 5 _ _ _ X.out
  have d6 := cell_of_row _ _ 6 _ _ _ X.out
  have d7 := cell_of_row _ _ 7 _ _ _ X.out
  have d8 := cell_of_row _ _ 8 _ _ _ X.out
  have d9 := cell_of_row _ _ 9 _ _ _ X.out
  have d10 := cell_of_row _ _ 10 _ _ _ X.out
  have d11 := cell_of_row _ _ 11 _ _ _ X.out
  simp only [List.getElem?_toArray, List.getElem?_cons_zero, List.getElem?_cons_succ] at d0 d1 d2 d3 d4 d5 d6 d7 d8 d9 d10 d11
  clear h BX
  have hpk : peekF T ps l va u = (l.getD pa 0, noF) := by unfold peekF; rw [hF, hf, if_neg (by simp [noF])]; rfl
  have PG := peek_call W _ L v T ps l va u hv D.out.m
  rw [hpk] at PG
  have PG := Aside0.mk PG
  have PL := Aside0.mk (fun W' v2 (k : DU w0 WF F W' L R v2 vp ve T ps l T pl qs l) => (by have q := rfind_nk W' _ R vp ve T pl qs l va 1 u false hv k.r; rw [show (((1 : Nat) : Int)) = 1 from rfl, hf] at q; exact q : Calls Try.prog 24 #[.pointer (some ⟨R.m, 0, none⟩), .int .u32 va, .int .i64 1, .bool u, .bool false, .bool false] W' fun e w' => e = .returned (.tuple #[.int .u32 (pa : Int), fltV noF]) ∧ Below W'.heap.size W' w'))
  unfold fltV noF at PG PL
  have hm24 : l.length ≤ 16777216 := D.out.m.ram.2.2.2.2
  have RB := Aside0.mk (fun W' v2 (k : DU w0 WF F W' L R v2 vp ve T ps l T pl qs l) => k.r.ram.byte pa hpa)
  generalize l.getD pa 0 = y at *
  clear hv hF hf hpk
  go_enter Try.func51, Try.ntmps51
  go_wp2_with (first
    | (go_at_call 32; (with_reducible refine (PG.out).mono ?_); rintro e w2 ⟨rfl, s⟩; obtain ⟨v2, D2⟩ := D.out.stepM s; have X2 := D.out.boxM s X.out oTy_call; have bl := below_alloc (Below.refl _ w2) (.cells #[.int .i64 0, .int .u32 0, .int .u32 0] 47 (0, 0)); have Y2 := Aside0.mk (heap_alloc_new w2 (.cells #[.int .i64 0, .int .u32 0, .int .u32 0] 47 (0, 0))); have D2 := Aside0.mk (D2.then bl); have X2 := Aside0.mk (row_then X2 bl); have e1 := cell_of_row _ _ 1 _ _ _ X2.out; have e4 := cell_of_row _ _ 4 _ _ _ X2.out; simp only [List.getElem?_toArray, List.getElem?_cons_zero, List.getElem?_cons_succ] at e1 e4; clear s bl)
    | (go_at_call 24; (with_reducible refine (PL.out _ _ D2.out).mono ?_); rintro e w3 ⟨rfl, hb⟩; have bl := below_alloc hb (.cells #[.int .i64 0, .int .u32 0, .int .u32 0] 47 (0, 0)); have D3 := Aside0.mk (D2.out.then bl); have Y3 := Aside0.mk (row_then Y2.out bl); have x0 := cell_of_row _ _ 0 _ _ _ Y3.out; have x1 := cell_of_row _ _ 1 _ _ _ Y3.out; have x2 := cell_of_row _ _ 2 _ _ _ Y3.out; have c0 : World.cell? (w3.alloc (.cells #[.int .i64 0, .int .u32 0, .int .u32 0] 47 (0, 0))) ⟨R.m, 0, none⟩ = some (.pointer (some ⟨R.r, 0, none⟩)) := D3.out.r.cell 0; have cF := D3.out.r.ram.field.2.2; have cO := RB.out _ _ D3.out; simp only [List.getElem?_toArray, List.getElem?_cons_zero, List.getElem?_cons_succ] at x0 x1 x2; clear hb bl))
  go_ret
  exact ⟨rfl, v2, vp, ve, D3.out⟩
set_option maxRecDepth 100000 in
set_option maxHeartbeats 8000000 in
theorem does_set (w0 WF : World) (F : Nat → Prop) (w : World) (L R : LocR) (v vp ve : Value) (T : Tabs) (pl : Bool) (ps qs : List (Int × Int)) (l : List Int) (va x n : Int) (u wr : Bool) (A : Option Addr) (nb cb : Nat) (t1 t2 t3 t4 t5 : Int) (h : DU w0 WF F w L R v vp ve T ps l T pl qs l) (hT : (⟨t1, t2, t3, t4, t5⟩ : Tabs).ok) :
    Calls Try.prog 51 #[.pointer (some ⟨L.r, 0, none⟩), .pointer (some ⟨L.m, 0, none⟩), .pointer (some ⟨R.m, 0, none⟩), .agg #[.int .i64 6, .int .u32 va, .int .u32 x, .int .i64 n, .bool u, .bool wr, .slice A nb cb, .int .u32 t1, .int .u32 t2, .int .u32 t3, .int .u32 t4, .int .u32 t5]] w fun e w' => e = .returned (.bool true) ∧ ∃ v' vp' ve', DU w0 WF F w' L R v' vp' ve' (⟨t1, t2, t3, t4, t5⟩ : Tabs) [] l (⟨t1, t2, t3, t4, t5⟩ : Tabs) pl [] l := by
  have BX := box1 w (.cells #[.int .i64 6, .int .u32 va, .int .u32 x, .int .i64 n, .bool u, .bool wr, .slice A nb cb, .int .u32 t1, .int .u32 t2, .int .u32 t3, .int .u32 t4, .int .u32 t5] 92 (0, 0))
  obtain ⟨W, hW⟩ : ∃ W, w.alloc (.cells #[.int .i64 6, .int .u32 va, .int .u32 x, .int .i64 n, .bool u, .bool wr, .slice A nb cb, .int .u32 t1, .int .u32 t2, .int .u32 t3, .int .u32 t4, .int .u32 t5] 92 (0, 0)) = W := ⟨_, rfl⟩
  rw [hW] at BX
  have X := Aside0.mk BX.2
  have BB := Aside0.mk BX.1
  have D := Aside0.mk (h.then BX.1)
  have d0 := cell_of_row _ _ 0 _ _ _ X.out
  have d1 := cell_of_row _ _ 1 _ _ _ X.out
  have d2 := cell_of_row _ _ 2 _ _ _ X.out
  have d3 := cell_of_row _ _ 3 _ _ _ X.out
  have d4 := cell_of_row _ _ 4 _ _ _ X.out
  have d5 := cell_of_row _ _ 5 _ _ _ X.out
  have d6 := cell_of_row _ _ 6 _ _ _ X.out
  have d7 := cell_of_row _ _ 7 _ _ _ X.out
  have d8 := cell_of_row _ _ 8 _ _ _ X.out
  have d9 := cell_of_row _ _ 9 _ _ _ X.out
  have d10 := cell_of_row _ _ 10 _ _ _ X.out
  have d11 := cell_of_row _ _ 11 _ _ _ X.out
  simp only [List.getElem?_toArray, List.getElem?_cons_zero, List.getElem?_cons_succ] at d0 d1 d2 d3 d4 d5 d6 d7 d8 d9 d10 d11
  clear h BX
  have PG := Aside0.mk (mset_call W _ L v T (⟨t1, t2, t3, t4, t5⟩ : Tabs) ps l D.out.m hT)
  have HT := Aside0.mk hT
  clear hT
  go_enter Try.func51, Try.ntmps51
  go_wp2_with (first
    | (go_at_call 20; (with_reducible refine (PG.out).mono ?_); rintro e w2 ⟨rfl, s⟩; obtain ⟨v2, D2⟩ := D.out.stepM s; have X2 := Aside0.mk (D.out.boxM s X.out oTy_call); have D2 := Aside0.mk D2; have S5 := Aside0.mk (rm_put5_step D2.out.r (⟨t1, t2, t3, t4, t5⟩ : Tabs) HT.out); have D5 := Aside0.mk (D2.out.stepR S5.out); have e7 := cell_of_row _ _ 7 _ _ _ X2.out; have e8 := cell_of_row _ _ 8 _ _ _ X2.out; have e9 := cell_of_row _ _ 9 _ _ _ X2.out; have e10 := cell_of_row _ _ 10 _ _ _ X2.out; have e11 := cell_of_row _ _ 11 _ _ _ X2.out; have c2 := D2.out.r.cell 2; have c3 := D2.out.r.cell 3; have c4 := D2.out.r.cell 4; have c5 := D2.out.r.cell 5; have c6 := D2.out.r.cell 6; have f2 := D2.out.r.free 2; have f3 := D2.out.r.free 3; have f4 := D2.out.r.free 4; have f5 := D2.out.r.free 5; have f6 := D2.out.r.free 6; obtain ⟨vp5, ve5, d5, _, _⟩ := D5.out; have D5 := Aside0.mk (show DU w0 WF F (((((w2.setCell ⟨R.m, 2, none⟩ (.int .u32 t1)).setCell ⟨R.m, 3, none⟩ (.int .u32 t2)).setCell ⟨R.m, 4, none⟩ (.int .u32 t3)).setCell ⟨R.m, 5, none⟩ (.int .u32 t4)).setCell ⟨R.m, 6, none⟩ (.int .u32 t5)) L R v2 vp5 ve5 (⟨t1, t2, t3, t4, t5⟩ : Tabs) [] l (⟨t1, t2, t3, t4, t5⟩ : Tabs) pl qs l from d5); have p1 : World.cell? (((((w2.setCell ⟨R.m, 2, none⟩ (.int .u32 t1)).setCell ⟨R.m, 3, none⟩ (.int .u32 t2)).setCell ⟨R.m, 4, none⟩ (.int .u32 t3)).setCell ⟨R.m, 5, none⟩ (.int .u32 t4)).setCell ⟨R.m, 6, none⟩ (.int .u32 t5)) ⟨R.m, 1, none⟩ = some (.pointer (some ⟨R.t, 0, none⟩)) := D5.out.r.cell 1; simp only [rmCells, List.getElem?_toArray, List.getElem?_cons_zero, List.getElem?_cons_succ] at e7 e8 e9 e10 e11 c2 c3 c4 c5 c6; clear s d5)
    | (go_at_call 47; (with_reducible refine (tclear_call _ _ R.t vp5 ve5 qs D5.out.r.tlb).mono ?_); rintro e w3 ⟨rfl, s⟩; obtain ⟨vp3, ve3, D3, _, _⟩ := D5.out.stepR (D5.out.r.tlb_step s (fun p hp => by cases hp) List.nodup_nil); have D3 := Aside0.mk D3; clear s))
  go_ret
  exact ⟨rfl, v2, vp3, ve3, D3.out⟩
set_option maxRecDepth 100000 in
set_option maxHeartbeats 8000000 in
theorem does_drop (w0 WF : World) (F : Nat → Prop) (w : World) (L R : LocR) (v vp ve : Value) (T : Tabs) (pl : Bool) (ps qs : List (Int × Int)) (l : List Int) (va x n : Int) (u wr : Bool) (A : Option Addr) (nb cb : Nat) (t1 t2 t3 t4 t5 : Int) (h : DU w0 WF F w L R v vp ve T ps l T pl qs l) (hv : R32 va) :
    Calls Try.prog 51 #[.pointer (some ⟨L.r, 0, none⟩), .pointer (some ⟨L.m, 0, none⟩), .pointer (some ⟨R.m, 0, none⟩), .agg #[.int .i64 8, .int .u32 va, .int .u32 x, .int .i64 n, .bool u, .bool wr, .slice A nb cb, .int .u32 t1, .int .u32 t2, .int .u32 t3, .int .u32 t4, .int .u32 t5]] w fun e w' => e = .returned (.bool true) ∧ ∃ v' vp' ve', DU w0 WF F w' L R v' vp' ve' T (dropP (va / 512) ps) l T pl (dropP (va / 512) qs) l := by
  have BX := box1 w (.cells #[.int .i64 8, .int .u32 va, .int .u32 x, .int .i64 n, .bool u, .bool wr, .slice A nb cb, .int .u32 t1, .int .u32 t2, .int .u32 t3, .int .u32 t4, .int .u32 t5] 92 (0, 0))
  obtain ⟨W, hW⟩ : ∃ W, w.alloc (.cells #[.int .i64 8, .int .u32 va, .int .u32 x, .int .i64 n, .bool u, .bool wr, .slice A nb cb, .int .u32 t1, .int .u32 t2, .int .u32 t3, .int .u32 t4, .int .u32 t5] 92 (0, 0)) = W := ⟨_, rfl⟩
  rw [hW] at BX
  have X := Aside0.mk BX.2
  have BB := Aside0.mk BX.1
  have D := Aside0.mk (h.then BX.1)
  have d0 := cell_of_row _ _ 0 _ _ _ X.out
  have d1 := cell_of_row _ _ 1 _ _ _ X.out
  have d2 := cell_of_row _ _ 2 _ _ _ X.out
  have d3 := cell_of_row _ _ 3 _ _ _ X.out
  have d4 := cell_of_row _ _ 4 _ _ _ X.out
  have d5 := cell_of_row _ _ 5 _ _ _ X.out
  have d6 := cell_of_row _ _ 6 _ _ _ X.out
  have d7 := cell_of_row _ _ 7 _ _ _ X.out
  have d8 := cell_of_row _ _ 8 _ _ _ X.out
  have d9 := cell_of_row _ _ 9 _ _ _ X.out
  have d10 := cell_of_row _ _ 10 _ _ _ X.out
  have d11 := cell_of_row _ _ 11 _ _ _ X.out
  simp only [List.getElem?_toArray, List.getElem?_cons_zero, List.getElem?_cons_succ] at d0 d1 d2 d3 d4 d5 d6 d7 d8 d9 d10 d11
  clear h BX
  have PG := Aside0.mk (mdrop_call W _ L v T ps l va D.out.m)
  have PL := Aside0.mk (fun W' v2 (k : DU w0 WF F W' L R v2 vp ve T (dropP (va / 512) ps) l T pl qs l) => (show Calls Try.prog 74 #[.pointer (some ⟨R.t, 0, none⟩), .int .u32 (IntKind.u32.wrap (va / 512))] W' (fun e w' => e = .returned (.tuple #[]) ∧ TStep W' w' w0.heap.size R.t vp ve (dropP (va / 512) qs)) by rw [show IntKind.u32.wrap (va / 512) = va / 512 by rw [IntKind.wrap_u32]; have := hv.1; have := hv.2; omega]; exact tdropP_call W' _ R.t vp ve qs (va / 512) k.r.nd k.r.tlb))
  have hv0 := hv.1
  have hv1 := hv.2
  have e0 : Int.tdiv va 512 = va / 512 := Int.tdiv_eq_ediv_of_nonneg hv0
  have e3 : va / 512 % 4294967296 = va / 512 := by omega
  clear hv
  go_enter Try.func51, Try.ntmps51
  go_wp2_with (first
    | (go_at_call 31; (with_reducible refine (PG.out).mono ?_); rintro e w2 ⟨rfl, s⟩; obtain ⟨v2, D2⟩ := D.out.stepM s; have D2 := Aside0.mk D2; have X2 := Aside0.mk (D.out.boxM s X.out oTy_call); clear s))
  have hS : Aside0 (∀ W', Below w2.heap.size w2 W' → W'.cell? ⟨R.m, 1, none⟩ = some (.pointer (some ⟨R.t, 0, none⟩)) ∧ W'.cell? ⟨w.heap.size, 1, none⟩ = some (.int .u32 va)) := ⟨fun W' hW => ⟨(D2.out.then hW).r.cell 1, cell_of_row _ _ 1 _ _ _ (row_then X2.out hW)⟩⟩
  have hS0 := hS.out w2 (Below.refl _ _)
  clear d0 d1 d2 d3 d4 d5 d6 d7 d8 d9 d10 d11
  go_region_held3 (fun W' => W'.cell? ⟨R.m, 1, none⟩ = some (.pointer (some ⟨R.t, 0, none⟩)) ∧ W'.cell? ⟨w.heap.size, 1, none⟩ = some (.int .u32 va))
    (first | exact hS.out _ (by assumption) | exact hS.out _ ((Below.refl _ _).drew) | exact hS3.out)
    (first
    | (go_at_call 74; (with_reducible refine (PL.out _ _ (D2.out.then ((Below.refl _ _).drew))).mono ?_); rintro e w3 ⟨rfl, s⟩; have st := (D2.out.then ((Below.refl _ _).drew)).r.tlb_step s (fun p hp => D2.out.r.ents p (dropP_mem hp)) (dropP_nodup _ _ D2.out.r.nd); have D3 := Aside0.mk ((D2.out.then ((Below.refl _ _).drew)).stepR st); have X3 := Aside0.mk ((D2.out.then ((Below.refl _ _).drew)).boxR st (row_then X2.out ((Below.refl _ _).drew)) oTy_call); have hS3 : Aside0 (w3.cell? ⟨R.m, 1, none⟩ = some (.pointer (some ⟨R.t, 0, none⟩)) ∧ w3.cell? ⟨w.heap.size, 1, none⟩ = some (.int .u32 va)) := ⟨by obtain ⟨vp8, ve8, d8, _, _⟩ := D3.out; exact ⟨d8.r.cell 1, cell_of_row _ _ 1 _ _ _ X3.out⟩⟩; clear s st))
  obtain ⟨vp3, ve3, d3, _, _⟩ := D3.out
  have D4 := Aside0.mk d3
  go_wp2
  go_ret
  exact ⟨rfl, v2, vp3, ve3, D4.out⟩
set_option maxRecDepth 100000 in
set_option maxHeartbeats 8000000 in
theorem does_probe (w0 WF : World) (F : Nat → Prop) (w : World) (L R : LocR) (v vp ve : Value) (T : Tabs) (pl : Bool) (ps qs : List (Int × Int)) (l : List Int) (va x n : Int) (u wr : Bool) (A : Option Addr) (nb cb : Nat) (t1 t2 t3 t4 t5 : Int) (h : DU w0 WF F w L R v vp ve T ps l T pl qs l) (hv : R32 va) (hn : n ≤ 1024) (hn0 : -9223372036854775808 ≤ n) (xs : List Pc) (fk fv fi : Int) (ps' qs' : List (Int × Int)) (p1 : Pcs T l u wr true ps va n xs (fk, fv, fi) ps') (p2 : Pcs T l u wr (!pl) qs va n xs (fk, fv, fi) qs') :
    Calls Try.prog 51 #[.pointer (some ⟨L.r, 0, none⟩), .pointer (some ⟨L.m, 0, none⟩), .pointer (some ⟨R.m, 0, none⟩), .agg #[.int .i64 4, .int .u32 va, .int .u32 x, .int .i64 n, .bool u, .bool wr, .slice A nb cb, .int .u32 t1, .int .u32 t2, .int .u32 t3, .int .u32 t4, .int .u32 t5]] w fun e w' => e = .returned (.bool true) ∧ ∃ v' vp' ve', DU w0 WF F w' L R v' vp' ve' T ps' l T pl qs' l := by
  have BX := box1 w (.cells #[.int .i64 4, .int .u32 va, .int .u32 x, .int .i64 n, .bool u, .bool wr, .slice A nb cb, .int .u32 t1, .int .u32 t2, .int .u32 t3, .int .u32 t4, .int .u32 t5] 92 (0, 0))
  obtain ⟨W, hW⟩ : ∃ W, w.alloc (.cells #[.int .i64 4, .int .u32 va, .int .u32 x, .int .i64 n, .bool u, .bool wr, .slice A nb cb, .int .u32 t1, .int .u32 t2, .int .u32 t3, .int .u32 t4, .int .u32 t5] 92 (0, 0)) = W := ⟨_, rfl⟩
  rw [hW] at BX
  have X := Aside0.mk BX.2
  have BB := Aside0.mk BX.1
  have D := Aside0.mk (h.then BX.1)
  have d0 := cell_of_row _ _ 0 _ _ _ X.out
  have d1 := cell_of_row _ _ 1 _ _ _ X.out
  have d2 := cell_of_row _ _ 2 _ _ _ X.out
  have d3 := cell_of_row _ _ 3 _ _ _ X.out
  have d4 := cell_of_row _ _ 4 _ _ _ X.out
  have d5 := cell_of_row _ _ 5 _ _ _ X.out
  have d6 := cell_of_row _ _ 6 _ _ _ X.out
  have d7 := cell_of_row _ _ 7 _ _ _ X.out
  have d8 := cell_of_row _ _ 8 _ _ _ X.out
  have d9 := cell_of_row _ _ 9 _ _ _ X.out
  have d10 := cell_of_row _ _ 10 _ _ _ X.out
  have d11 := cell_of_row _ _ 11 _ _ _ X.out
  simp only [List.getElem?_toArray, List.getElem?_cons_zero, List.getElem?_cons_succ] at d0 d1 d2 d3 d4 d5 d6 d7 d8 d9 d10 d11
  clear h BX
  have PL := Aside0.mk (rplaces_is W _ R vp ve T pl qs l va n u wr hv (by omega) hn0 xs fk fv fi qs' p2 D.out.r)
  have PG := Aside0.mk (fun W' vp2 ve2 (k : DU w0 WF F W' L R v vp2 ve2 T ps l T pl qs' l) => mprobe_is W' _ L v T ps l va n u wr hv (by omega) hn0 xs fk fv fi ps' p1 k.m)
  clear hv p1 p2 hn hn0
  go_enter Try.func51, Try.ntmps51
  go_wp2_with (first
    | (go_at_call 70; (with_reducible refine (PL.out).mono ?_); rintro e w2 ⟨A2, c2, rfl, P⟩; obtain ⟨vp2, ve2, D2, _, _⟩ := D.out.stepR P.rstep; have D2 := Aside0.mk D2; have X2 := Aside0.mk (D.out.boxR P.rstep X.out oTy_call); clear P))
  have bl := below_alloc (Below.refl _ w2) (.cells #[.int .i64 fk, .int .u32 fv, .int .u32 fi] 47 (0, 0))
  have Y2 := Aside0.mk (heap_alloc_new w2 (.cells #[.int .i64 fk, .int .u32 fv, .int .u32 fi] 47 (0, 0)))
  have D2 := Aside0.mk (D2.out.then bl)
  have X2 := Aside0.mk (row_then X2.out bl)
  clear bl d0 d1 d2 d3 d4 d5 d6 d7 d8 d9 d10 d11
  generalize w2.alloc (.cells #[.int .i64 fk, .int .u32 fv, .int .u32 fi] 47 (0, 0)) = V at *
  have hS : Aside0 (∀ W', Below V.heap.size V W' → W'.cell? ⟨w.heap.size, 1, none⟩ = some (.int .u32 va) ∧ W'.cell? ⟨w.heap.size, 3, none⟩ = some (.int .i64 n) ∧ W'.cell? ⟨w.heap.size, 4, none⟩ = some (.bool u) ∧ W'.cell? ⟨w.heap.size, 5, none⟩ = some (.bool wr) ∧ W'.cell? ⟨w2.heap.size, 0, none⟩ = some (.int .i64 fk) ∧ W'.cell? ⟨w2.heap.size, 1, none⟩ = some (.int .u32 fv) ∧ W'.cell? ⟨w2.heap.size, 2, none⟩ = some (.int .u32 fi)) := ⟨fun W' hW => ⟨cell_of_row _ _ 1 _ _ _ (row_then X2.out hW), cell_of_row _ _ 3 _ _ _ (row_then X2.out hW), cell_of_row _ _ 4 _ _ _ (row_then X2.out hW), cell_of_row _ _ 5 _ _ _ (row_then X2.out hW), cell_of_row _ _ 0 _ _ _ (row_then Y2.out hW), cell_of_row _ _ 1 _ _ _ (row_then Y2.out hW), cell_of_row _ _ 2 _ _ _ (row_then Y2.out hW)⟩⟩
  have hS0 := hS.out V (Below.refl _ _)
  go_region_held3 (fun W' => W'.cell? ⟨w.heap.size, 1, none⟩ = some (.int .u32 va) ∧ W'.cell? ⟨w.heap.size, 3, none⟩ = some (.int .i64 n) ∧ W'.cell? ⟨w.heap.size, 4, none⟩ = some (.bool u) ∧ W'.cell? ⟨w.heap.size, 5, none⟩ = some (.bool wr) ∧ W'.cell? ⟨w2.heap.size, 0, none⟩ = some (.int .i64 fk) ∧ W'.cell? ⟨w2.heap.size, 1, none⟩ = some (.int .u32 fv) ∧ W'.cell? ⟨w2.heap.size, 2, none⟩ = some (.int .u32 fi))
    (first | exact hS.out _ (by assumption) | exact hS.out _ ((Below.refl _ _).drew) | exact hS3.out _ (Below.refl _ _) | exact hS3.out _ ((Below.refl _ _).drew))
    (first
    | (go_at_call 35; (with_reducible refine (PG.out _ _ _ (D2.out.then ((Below.refl _ _).drew))).mono ?_); rintro e w3 ⟨rfl, s⟩; have D3 := Aside0.mk ((D2.out.then ((Below.refl _ _).drew)).stepM s); have X3 := Aside0.mk ((D2.out.then ((Below.refl _ _).drew)).boxM s (row_then X2.out ((Below.refl _ _).drew)) oTy_call); have Y3 := Aside0.mk ((D2.out.then ((Below.refl _ _).drew)).boxM s (row_then Y2.out ((Below.refl _ _).drew)) oTy_flt); have hS3 : Aside0 (∀ W', Below w3.heap.size w3 W' → W'.cell? ⟨w.heap.size, 1, none⟩ = some (.int .u32 va) ∧ W'.cell? ⟨w.heap.size, 3, none⟩ = some (.int .i64 n) ∧ W'.cell? ⟨w.heap.size, 4, none⟩ = some (.bool u) ∧ W'.cell? ⟨w.heap.size, 5, none⟩ = some (.bool wr) ∧ W'.cell? ⟨w2.heap.size, 0, none⟩ = some (.int .i64 fk) ∧ W'.cell? ⟨w2.heap.size, 1, none⟩ = some (.int .u32 fv) ∧ W'.cell? ⟨w2.heap.size, 2, none⟩ = some (.int .u32 fi)) := ⟨fun W' hW => ⟨cell_of_row _ _ 1 _ _ _ (row_then X3.out hW), cell_of_row _ _ 3 _ _ _ (row_then X3.out hW), cell_of_row _ _ 4 _ _ _ (row_then X3.out hW), cell_of_row _ _ 5 _ _ _ (row_then X3.out hW), cell_of_row _ _ 0 _ _ _ (row_then Y3.out hW), cell_of_row _ _ 1 _ _ _ (row_then Y3.out hW), cell_of_row _ _ 2 _ _ _ (row_then Y3.out hW)⟩⟩; clear s))
  all_goals (
    obtain ⟨v3, d3⟩ := D3.out
    have D4 := Aside0.mk d3
    go_wp2
    go_ret
    exact ⟨rfl, v3, vp2, ve2, D4.out⟩)
set_option maxRecDepth 100000 in
set_option maxHeartbeats 8000000 in
theorem does_ram_ok (w0 WF : World) (F : Nat → Prop) (w : World) (L R : LocR) (v vp ve : Value) (T : Tabs) (pl : Bool) (ps qs : List (Int × Int)) (l : List Int) (va x n : Int) (u wr : Bool) (A : Option Addr) (nb cb : Nat) (t1 t2 t3 t4 t5 : Int) (h : DU w0 WF F w L R v vp ve T ps l T pl qs l) (hv : R32 va) (hx : R32 x) (hl : va + 4 ≤ l.length) (l' : List Int) (hl' : putL l va.toNat x 4 = l') :
    Calls Try.prog 51 #[.pointer (some ⟨L.r, 0, none⟩), .pointer (some ⟨L.m, 0, none⟩), .pointer (some ⟨R.m, 0, none⟩), .agg #[.int .i64 9, .int .u32 va, .int .u32 x, .int .i64 n, .bool u, .bool wr, .slice A nb cb, .int .u32 t1, .int .u32 t2, .int .u32 t3, .int .u32 t4, .int .u32 t5]] w fun e w' => e = .returned (.bool true) ∧ ∃ v' vp' ve', DU w0 WF F w' L R v' vp' ve' T ps l' T pl qs l' := by
  have BX := box1 w (.cells #[.int .i64 9, .int .u32 va, .int .u32 x, .int .i64 n, .bool u, .bool wr, .slice A nb cb, .int .u32 t1, .int .u32 t2, .int .u32 t3, .int .u32 t4, .int .u32 t5] 92 (0, 0))
  obtain ⟨W, hW⟩ : ∃ W, w.alloc (.cells #[.int .i64 9, .int .u32 va, .int .u32 x, .int .i64 n, .bool u, .bool wr, .slice A nb cb, .int .u32 t1, .int .u32 t2, .int .u32 t3, .int .u32 t4, .int .u32 t5] 92 (0, 0)) = W := ⟨_, rfl⟩
  rw [hW] at BX
  have X := Aside0.mk BX.2
  have BB := Aside0.mk BX.1
  have D := Aside0.mk (h.then BX.1)
  have d0 := cell_of_row _ _ 0 _ _ _ X.out
  have d1 := cell_of_row _ _ 1 _ _ _ X.out
  have d2 := cell_of_row _ _ 2 _ _ _ X.out
  have d3 := cell_of_row _ _ 3 _ _ _ X.out
  have d4 := cell_of_row _ _ 4 _ _ _ X.out
  have d5 := cell_of_row _ _ 5 _ _ _ X.out
  have d6 := cell_of_row _ _ 6 _ _ _ X.out
  have d7 := cell_of_row _ _ 7 _ _ _ X.out
  have d8 := cell_of_row _ _ 8 _ _ _ X.out
  have d9 := cell_of_row _ _ 9 _ _ _ X.out
  have d10 := cell_of_row _ _ 10 _ _ _ X.out
  have d11 := cell_of_row _ _ 11 _ _ _ X.out
  simp only [List.getElem?_toArray, List.getElem?_cons_zero, List.getElem?_cons_succ] at d0 d1 d2 d3 d4 d5 d6 d7 d8 d9 d10 d11
  clear h BX
  have PG : Aside0 (Calls Try.prog 39 #[.pointer (some ⟨L.r, 0, none⟩), .int .u32 va, .int .u32 x, .int .i64 4] W fun e w' => e = .returned (.int .i64 0) ∧ MStep W w' w0.heap.size L v T ps l') := ⟨(put_i W _ L.r L.b l.length L.c l va 4 x hx.1 hx.2 hv.1 hv.2 D.out.m.ram (by decide) hl (by decide)).mono fun e w' ⟨he, hr, hg⟩ => ⟨he, by
    rw [show ((4 : Int)).toNat = 4 from rfl, hl'] at hr
    exact D.out.m.ram_step (by rw [← hl', putL_length]) hr hg (by rw [← hl']; exact putL_bytes _ D.out.m.by_ _ _ _)⟩⟩
  have PL : Aside0 (∀ W' v2, DU w0 WF F W' L R v2 vp ve T ps l' T pl qs l → Calls Try.prog 44 #[.pointer (some ⟨R.r, 0, none⟩), .int .u32 va, .int .u32 x, .int .i64 4] W' fun e w' => e = .returned (.int .i64 0) ∧ RStep W' w' w0.heap.size R vp ve T pl qs l') := ⟨fun W' v2 k => by
    have hp := rput_ok W' _ R.r R.b R.c l va.toNat x hx (by have := hv.2; have := hv.1; omega) k.r.ram (by have := hv.1; omega)
    rw [Int.toNat_of_nonneg hv.1, hl'] at hp
    exact hp.mono fun e w' ⟨he, hr, hg⟩ => ⟨he, k.r.ram_step (by rw [← hl', putL_length]) hr hg (by rw [← hl']; exact putL_bytes _ k.r.by_ _ _ _)⟩⟩
  clear hv hx hl
  go_enter Try.func51, Try.ntmps51
  go_wp2_with (first
    | (go_at_call 39; (with_reducible refine (PG.out).mono ?_); rintro e w2 ⟨rfl, s⟩; obtain ⟨v2, D2⟩ := D.out.stepM s; have D2 := Aside0.mk D2; have X2 := Aside0.mk (D.out.boxM s X.out oTy_call); clear s))
  have hS : Aside0 (∀ W', Below w2.heap.size w2 W' → W'.cell? ⟨R.m, 0, none⟩ = some (.pointer (some ⟨R.r, 0, none⟩)) ∧ W'.cell? ⟨w.heap.size, 1, none⟩ = some (.int .u32 va) ∧ W'.cell? ⟨w.heap.size, 2, none⟩ = some (.int .u32 x)) := ⟨fun W' hW => ⟨(D2.out.then hW).r.cell 0, cell_of_row _ _ 1 _ _ _ (row_then X2.out hW), cell_of_row _ _ 2 _ _ _ (row_then X2.out hW)⟩⟩
  have hS0 := hS.out w2 (Below.refl _ _)
  clear d0 d1 d2 d3 d4 d5 d6 d7 d8 d9 d10 d11
  go_region_held3 (fun W' => W'.cell? ⟨R.m, 0, none⟩ = some (.pointer (some ⟨R.r, 0, none⟩)) ∧ W'.cell? ⟨w.heap.size, 1, none⟩ = some (.int .u32 va) ∧ W'.cell? ⟨w.heap.size, 2, none⟩ = some (.int .u32 x))
    (first | exact hS.out _ (by assumption) | exact hS.out _ ((Below.refl _ _).drew) | exact hS3.out)
    (first
    | (go_at_call 44; (with_reducible refine (PL.out _ _ (D2.out.then ((Below.refl _ _).drew))).mono ?_); rintro e w3 ⟨rfl, st⟩; have D3 := Aside0.mk ((D2.out.then ((Below.refl _ _).drew)).stepR st); have X3 := Aside0.mk ((D2.out.then ((Below.refl _ _).drew)).boxR st (row_then X2.out ((Below.refl _ _).drew)) oTy_call); have hS3 : Aside0 (w3.cell? ⟨R.m, 0, none⟩ = some (.pointer (some ⟨R.r, 0, none⟩)) ∧ w3.cell? ⟨w.heap.size, 1, none⟩ = some (.int .u32 va) ∧ w3.cell? ⟨w.heap.size, 2, none⟩ = some (.int .u32 x)) := ⟨by obtain ⟨vp8, ve8, d8, _, _⟩ := D3.out; exact ⟨d8.r.cell 0, cell_of_row _ _ 1 _ _ _ X3.out, cell_of_row _ _ 2 _ _ _ X3.out⟩⟩; clear st))
  obtain ⟨vp3, ve3, d3, _, _⟩ := D3.out
  have D4 := Aside0.mk d3
  go_wp2
  go_ret
  exact ⟨rfl, v2, vp3, ve3, D4.out⟩
set_option maxRecDepth 100000 in
set_option maxHeartbeats 8000000 in
theorem does_ram_bus (w0 WF : World) (F : Nat → Prop) (w : World) (L R : LocR) (v vp ve : Value) (T : Tabs) (pl : Bool) (ps qs : List (Int × Int)) (l : List Int) (va x n : Int) (u wr : Bool) (A : Option Addr) (nb cb : Nat) (t1 t2 t3 t4 t5 : Int) (h : DU w0 WF F w L R v vp ve T ps l T pl qs l) (hv : R32 va) (hx : R32 x) (hl : ¬ va + 4 ≤ l.length) :
    Calls Try.prog 51 #[.pointer (some ⟨L.r, 0, none⟩), .pointer (some ⟨L.m, 0, none⟩), .pointer (some ⟨R.m, 0, none⟩), .agg #[.int .i64 9, .int .u32 va, .int .u32 x, .int .i64 n, .bool u, .bool wr, .slice A nb cb, .int .u32 t1, .int .u32 t2, .int .u32 t3, .int .u32 t4, .int .u32 t5]] w fun e w' => e = .returned (.bool true) ∧ ∃ v' vp' ve', DU w0 WF F w' L R v' vp' ve' T ps l T pl qs l := by
  have BX := box1 w (.cells #[.int .i64 9, .int .u32 va, .int .u32 x, .int .i64 n, .bool u, .bool wr, .slice A nb cb, .int .u32 t1, .int .u32 t2, .int .u32 t3, .int .u32 t4, .int .u32 t5] 92 (0, 0))
  obtain ⟨W, hW⟩ : ∃ W, w.alloc (.cells #[.int .i64 9, .int .u32 va, .int .u32 x, .int .i64 n, .bool u, .bool wr, .slice A nb cb, .int .u32 t1, .int .u32 t2, .int .u32 t3, .int .u32 t4, .int .u32 t5] 92 (0, 0)) = W := ⟨_, rfl⟩
  rw [hW] at BX
  have X := Aside0.mk BX.2
  have BB := Aside0.mk BX.1
  have D := Aside0.mk (h.then BX.1)
  have d0 := cell_of_row _ _ 0 _ _ _ X.out
  have d1 := cell_of_row _ _ 1 _ _ _ X.out
  have d2 := cell_of_row _ _ 2 _ _ _ X.out
  have d3 := cell_of_row _ _ 3 _ _ _ X.out
  have d4 := cell_of_row _ _ 4 _ _ _ X.out
  have d5 := cell_of_row _ _ 5 _ _ _ X.out
  have d6 := cell_of_row _ _ 6 _ _ _ X.out
  have d7 := cell_of_row _ _ 7 _ _ _ X.out
  have d8 := cell_of_row _ _ 8 _ _ _ X.out
  have d9 := cell_of_row _ _ 9 _ _ _ X.out
  have d10 := cell_of_row _ _ 10 _ _ _ X.out
  have d11 := cell_of_row _ _ 11 _ _ _ X.out
  simp only [List.getElem?_toArray, List.getElem?_cons_zero, List.getElem?_cons_succ] at d0 d1 d2 d3 d4 d5 d6 d7 d8 d9 d10 d11
  clear h BX
  have PG : Aside0 (Calls Try.prog 39 #[.pointer (some ⟨L.r, 0, none⟩), .int .u32 va, .int .u32 x, .int .i64 4] W fun e w' => e = .returned (.int .i64 6) ∧ MStep W w' w0.heap.size L v T ps l) := ⟨(put_bus_i W _ L.r L.b l.length L.c l va 4 x hv.1 hv.2 D.out.m.ram (fun c => hl c.2.1)).mono fun e w' ⟨he, hw⟩ => ⟨he, by subst hw; exact MStep.of_below D.out.m (Below.refl _ _)⟩⟩
  have PL : Aside0 (∀ W' v2, DU w0 WF F W' L R v2 vp ve T ps l T pl qs l → Calls Try.prog 44 #[.pointer (some ⟨R.r, 0, none⟩), .int .u32 va, .int .u32 x, .int .i64 4] W' fun e w' => e = .returned (.int .i64 6) ∧ RStep W' w' w0.heap.size R vp ve T pl qs l) := ⟨fun W' v2 k => (rput_bus W' _ R.r R.b R.c l va x hv k.r.ram hl).mono fun e w' ⟨he, hw⟩ => ⟨he, by subst hw; exact RStep.of_below k.r (Below.refl _ _)⟩⟩
  clear hv hx hl
  go_enter Try.func51, Try.ntmps51
  go_wp2_with (first
    | (go_at_call 39; (with_reducible refine (PG.out).mono ?_); rintro e w2 ⟨rfl, s⟩; obtain ⟨v2, D2⟩ := D.out.stepM s; have D2 := Aside0.mk D2; have X2 := Aside0.mk (D.out.boxM s X.out oTy_call); clear s))
  have hS : Aside0 (∀ W', Below w2.heap.size w2 W' → W'.cell? ⟨R.m, 0, none⟩ = some (.pointer (some ⟨R.r, 0, none⟩)) ∧ W'.cell? ⟨w.heap.size, 1, none⟩ = some (.int .u32 va) ∧ W'.cell? ⟨w.heap.size, 2, none⟩ = some (.int .u32 x)) := ⟨fun W' hW => ⟨(D2.out.then hW).r.cell 0, cell_of_row _ _ 1 _ _ _ (row_then X2.out hW), cell_of_row _ _ 2 _ _ _ (row_then X2.out hW)⟩⟩
  have hS0 := hS.out w2 (Below.refl _ _)
  clear d0 d1 d2 d3 d4 d5 d6 d7 d8 d9 d10 d11
  go_region_held3 (fun W' => W'.cell? ⟨R.m, 0, none⟩ = some (.pointer (some ⟨R.r, 0, none⟩)) ∧ W'.cell? ⟨w.heap.size, 1, none⟩ = some (.int .u32 va) ∧ W'.cell? ⟨w.heap.size, 2, none⟩ = some (.int .u32 x))
    (first | exact hS.out _ (by assumption) | exact hS.out _ ((Below.refl _ _).drew) | exact hS3.out)
    (first
    | (go_at_call 44; (with_reducible refine (PL.out _ _ (D2.out.then ((Below.refl _ _).drew))).mono ?_); rintro e w3 ⟨rfl, st⟩; have D3 := Aside0.mk ((D2.out.then ((Below.refl _ _).drew)).stepR st); have X3 := Aside0.mk ((D2.out.then ((Below.refl _ _).drew)).boxR st (row_then X2.out ((Below.refl _ _).drew)) oTy_call); have hS3 : Aside0 (w3.cell? ⟨R.m, 0, none⟩ = some (.pointer (some ⟨R.r, 0, none⟩)) ∧ w3.cell? ⟨w.heap.size, 1, none⟩ = some (.int .u32 va) ∧ w3.cell? ⟨w.heap.size, 2, none⟩ = some (.int .u32 x)) := ⟨by obtain ⟨vp8, ve8, d8, _, _⟩ := D3.out; exact ⟨d8.r.cell 0, cell_of_row _ _ 1 _ _ _ X3.out, cell_of_row _ _ 2 _ _ _ X3.out⟩⟩; clear st))
  obtain ⟨vp3, ve3, d3, _, _⟩ := D3.out
  have D4 := Aside0.mk d3
  go_wp2
  go_ret
  exact ⟨rfl, v2, vp3, ve3, D4.out⟩
set_option maxRecDepth 100000 in
set_option maxHeartbeats 8000000 in
theorem does_store (w0 WF : World) (F : Nat → Prop) (w : World) (L R : LocR) (v vp ve : Value) (T : Tabs) (pl : Bool) (ps qs : List (Int × Int)) (l : List Int) (va x n : Int) (u wr : Bool) (A : Option Addr) (nb cb : Nat) (t1 t2 t3 t4 t5 : Int) (h : DU w0 WF F w L R v vp ve T ps l T pl qs l) (hv : R32 va) (bs : List Int) (hlen : bs.length = nb) (hnb : nb ≤ 1024) (hcb : nb ≤ cb) (hby : Bytes bs) (hr : ReadsInt w0 .u8 A nb bs) (xs : List Pc) (fk fv fi : Int) (ps1 qs1 : List (Int × Int)) (p1 : Pcs T l u true true ps va nb xs (fk, fv, fi) ps1) (p2 : Pcs T l u true (!pl) qs va nb xs (fk, fv, fi) qs1) (ps' qs' : List (Int × Int)) (l' : List Int) (e1 : storeP T xs fk ps1 l = ps') (e2 : storeP T xs fk qs1 l = qs') (e3 : storeL T xs fk ps1 l bs = l') (e4 : storeL T xs fk qs1 l bs = l') :
    Calls Try.prog 51 #[.pointer (some ⟨L.r, 0, none⟩), .pointer (some ⟨L.m, 0, none⟩), .pointer (some ⟨R.m, 0, none⟩), .agg #[.int .i64 3, .int .u32 va, .int .u32 x, .int .i64 n, .bool u, .bool wr, .slice A nb cb, .int .u32 t1, .int .u32 t2, .int .u32 t3, .int .u32 t4, .int .u32 t5]] w fun e w' => e = .returned (.bool true) ∧ ∃ v' vp' ve', DU w0 WF F w' L R v' vp' ve' T ps' l' T pl qs' l' := by
  have BX := box1 w (.cells #[.int .i64 3, .int .u32 va, .int .u32 x, .int .i64 n, .bool u, .bool wr, .slice A nb cb, .int .u32 t1, .int .u32 t2, .int .u32 t3, .int .u32 t4, .int .u32 t5] 92 (0, 0))
  obtain ⟨W, hW⟩ : ∃ W, w.alloc (.cells #[.int .i64 3, .int .u32 va, .int .u32 x, .int .i64 n, .bool u, .bool wr, .slice A nb cb, .int .u32 t1, .int .u32 t2, .int .u32 t3, .int .u32 t4, .int .u32 t5] 92 (0, 0)) = W := ⟨_, rfl⟩
  rw [hW] at BX
  have X := Aside0.mk BX.2
  have BB := Aside0.mk BX.1
  have D := Aside0.mk (h.then BX.1)
  have d0 := cell_of_row _ _ 0 _ _ _ X.out
  have d1 := cell_of_row _ _ 1 _ _ _ X.out
  have d2 := cell_of_row _ _ 2 _ _ _ X.out
  have d3 := cell_of_row _ _ 3 _ _ _ X.out
  have d4 := cell_of_row _ _ 4 _ _ _ X.out
  have d5 := cell_of_row _ _ 5 _ _ _ X.out
  have d6 := cell_of_row _ _ 6 _ _ _ X.out
  have d7 := cell_of_row _ _ 7 _ _ _ X.out
  have d8 := cell_of_row _ _ 8 _ _ _ X.out
  have d9 := cell_of_row _ _ 9 _ _ _ X.out
  have d10 := cell_of_row _ _ 10 _ _ _ X.out
  have d11 := cell_of_row _ _ 11 _ _ _ X.out
  simp only [List.getElem?_toArray, List.getElem?_cons_zero, List.getElem?_cons_succ] at d0 d1 d2 d3 d4 d5 d6 d7 d8 d9 d10 d11
  clear h BX
  have PG : Aside0 (Calls Try.prog 38 #[.pointer (some ⟨L.m, 0, none⟩), .int .u32 va, .bool u, .slice A nb cb] W.drew fun e w' => e = .returned (.agg #[.int .i64 fk, .int .u32 fv, .int .u32 fi]) ∧ MStep W.drew w' w0.heap.size L v T ps' l') := ⟨by
    subst hlen
    have q := store_call W.drew _ L v T ps l va u A cb bs xs fk fv fi ps1 hv (by omega) hby hcb (hr.below (D.out.then ((Below.refl _ _).drew)).below) (fun a ha hp f => ((D.out.then ((Below.refl _ _).drew)).apart hr a ha hp).1 (.inl f)) p1 (D.out.then ((Below.refl _ _).drew)).m
    rw [e1, e3] at q
    exact q⟩
  have PL : Aside0 (∀ W' v2, DU w0 WF F W' L R v2 vp ve T ps' l' T pl qs l → Calls Try.prog 45 #[.pointer (some ⟨R.m, 0, none⟩), .int .u32 va, .bool u, .slice A nb cb] W' fun e w' => e = .returned (.agg #[.int .i64 fk, .int .u32 fv, .int .u32 fi]) ∧ RStep W' w' w0.heap.size R vp ve T pl qs' l') := ⟨fun W' v2 k => by
    have q := rstore_call W' _ R vp ve T pl qs l va u A nb cb bs xs fk fv fi qs1 hlen hv (by omega) hby (hr.below k.below) (fun a ha hp f => (k.apart hr a ha hp).2 (.inl f)) p2 k.r
    rw [e2, e4] at q
    exact q⟩
  clear hv hlen hnb hcb hby hr p1 p2 e1 e2 e3 e4
  have hS : Aside0 (∀ W', Below W.heap.size W W' → W'.cell? ⟨w.heap.size, 1, none⟩ = some (.int .u32 va) ∧ W'.cell? ⟨w.heap.size, 4, none⟩ = some (.bool u) ∧ W'.cell? ⟨w.heap.size, 6, none⟩ = some (.slice A nb cb)) := ⟨fun W' hW => ⟨cell_of_row _ _ 1 _ _ _ (row_then X.out hW), cell_of_row _ _ 4 _ _ _ (row_then X.out hW), cell_of_row _ _ 6 _ _ _ (row_then X.out hW)⟩⟩
  have hS0 := hS.out W (Below.refl _ _)
  go_enter Try.func51, Try.ntmps51
  go_wp2_with fail
  go_region_held3 (fun W' => W'.cell? ⟨w.heap.size, 1, none⟩ = some (.int .u32 va) ∧ W'.cell? ⟨w.heap.size, 4, none⟩ = some (.bool u) ∧ W'.cell? ⟨w.heap.size, 6, none⟩ = some (.slice A nb cb))
    (first | exact hS.out _ (by assumption) | exact hS.out _ ((Below.refl _ _).drew) | exact hS2.out _ (Below.refl _ _) | exact hS3.out _ (Below.refl _ _))
    (first
    | (go_at_call 38; (with_reducible refine (PG.out).mono ?_); rintro e w2 ⟨rfl, s⟩; have D2 := Aside0.mk ((D.out.then ((Below.refl _ _).drew)).stepM s); have X2 := Aside0.mk ((D.out.then ((Below.refl _ _).drew)).boxM s (row_then X.out ((Below.refl _ _).drew)) oTy_call); obtain ⟨v2, d2⟩ := D2.out; have D2 := Aside0.mk d2; have hS2 : Aside0 (∀ W', Below w2.heap.size w2 W' → W'.cell? ⟨w.heap.size, 1, none⟩ = some (.int .u32 va) ∧ W'.cell? ⟨w.heap.size, 4, none⟩ = some (.bool u) ∧ W'.cell? ⟨w.heap.size, 6, none⟩ = some (.slice A nb cb)) := ⟨fun W' hW => ⟨cell_of_row _ _ 1 _ _ _ (row_then X2.out hW), cell_of_row _ _ 4 _ _ _ (row_then X2.out hW), cell_of_row _ _ 6 _ _ _ (row_then X2.out hW)⟩⟩; clear s d2)
    | (go_at_call 45; (with_reducible refine (PL.out _ _ D2.out).mono ?_); rintro e w3 ⟨rfl, st⟩; have D3 := Aside0.mk (D2.out.stepR st); have X3 := Aside0.mk (D2.out.boxR st X2.out oTy_call); have hS3 : Aside0 (∀ W', Below w3.heap.size w3 W' → W'.cell? ⟨w.heap.size, 1, none⟩ = some (.int .u32 va) ∧ W'.cell? ⟨w.heap.size, 4, none⟩ = some (.bool u) ∧ W'.cell? ⟨w.heap.size, 6, none⟩ = some (.slice A nb cb)) := ⟨fun W' hW => ⟨cell_of_row _ _ 1 _ _ _ (row_then X3.out hW), cell_of_row _ _ 4 _ _ _ (row_then X3.out hW), cell_of_row _ _ 6 _ _ _ (row_then X3.out hW)⟩⟩; clear st))
  all_goals (
    obtain ⟨vp3, ve3, d3, _, _⟩ := D3.out
    have D4 := Aside0.mk d3
    go_wp2
    go_ret
    exact ⟨rfl, v2, vp3, ve3, D4.out⟩)
set_option maxRecDepth 100000 in
set_option maxHeartbeats 8000000 in
theorem does_put (w0 WF : World) (F : Nat → Prop) (w : World) (L R : LocR) (v vp ve : Value) (T : Tabs) (pl : Bool) (ps qs : List (Int × Int)) (l : List Int) (va x n : Int) (u wr : Bool) (A : Option Addr) (nb cb : Nat) (t1 t2 t3 t4 t5 : Int) (h : DU w0 WF F w L R v vp ve T ps l T pl qs l) (hv : R32 va) (hx : R32 x) (xs : List Pc) (fk fv fi : Int) (ps1 qs1 : List (Int × Int)) (p1 : Pcs T l u true true ps va (szI n) xs (fk, fv, fi) ps1) (p2 : Pcs T l u true (!pl) qs va (szI n) xs (fk, fv, fi) qs1) (ps' qs' : List (Int × Int)) (l' : List Int) (e1 : storeP T xs fk ps1 l = ps') (e2 : storeP T xs fk qs1 l = qs') (e3 : storeL T xs fk ps1 l (byL x (szI n).toNat) = l') (e4 : storeL T xs fk qs1 l (byL x (szI n).toNat) = l') :
    Calls Try.prog 51 #[.pointer (some ⟨L.r, 0, none⟩), .pointer (some ⟨L.m, 0, none⟩), .pointer (some ⟨R.m, 0, none⟩), .agg #[.int .i64 1, .int .u32 va, .int .u32 x, .int .i64 n, .bool u, .bool wr, .slice A nb cb, .int .u32 t1, .int .u32 t2, .int .u32 t3, .int .u32 t4, .int .u32 t5]] w fun e w' => e = .returned (.bool true) ∧ ∃ v' vp' ve', DU w0 WF F w' L R v' vp' ve' T ps' l' T pl qs' l' := by
  have BX := box1 w (.cells #[.int .i64 1, .int .u32 va, .int .u32 x, .int .i64 n, .bool u, .bool wr, .slice A nb cb, .int .u32 t1, .int .u32 t2, .int .u32 t3, .int .u32 t4, .int .u32 t5] 92 (0, 0))
  obtain ⟨W, hW⟩ : ∃ W, w.alloc (.cells #[.int .i64 1, .int .u32 va, .int .u32 x, .int .i64 n, .bool u, .bool wr, .slice A nb cb, .int .u32 t1, .int .u32 t2, .int .u32 t3, .int .u32 t4, .int .u32 t5] 92 (0, 0)) = W := ⟨_, rfl⟩
  rw [hW] at BX
  have X := Aside0.mk BX.2
  have BB := Aside0.mk BX.1
  have D := Aside0.mk (h.then BX.1)
  have d0 := cell_of_row _ _ 0 _ _ _ X.out
  have d1 := cell_of_row _ _ 1 _ _ _ X.out
  have d2 := cell_of_row _ _ 2 _ _ _ X.out
  have d3 := cell_of_row _ _ 3 _ _ _ X.out
  have d4 := cell_of_row _ _ 4 _ _ _ X.out
  have d5 := cell_of_row _ _ 5 _ _ _ X.out
  have d6 := cell_of_row _ _ 6 _ _ _ X.out
  have d7 := cell_of_row _ _ 7 _ _ _ X.out
  have d8 := cell_of_row _ _ 8 _ _ _ X.out
  have d9 := cell_of_row _ _ 9 _ _ _ X.out
  have d10 := cell_of_row _ _ 10 _ _ _ X.out
  have d11 := cell_of_row _ _ 11 _ _ _ X.out
  simp only [List.getElem?_toArray, List.getElem?_cons_zero, List.getElem?_cons_succ] at d0 d1 d2 d3 d4 d5 d6 d7 d8 d9 d10 d11
  clear h BX
  have PG : Aside0 (Calls Try.prog 40 #[.pointer (some ⟨L.m, 0, none⟩), .int .u32 va, .int .u32 x, .int .i64 n, .bool u] W.drew fun e w' => e = .returned (.agg #[.int .i64 fk, .int .u32 fv, .int .u32 fi]) ∧ MStep W.drew w' w0.heap.size L v T ps' l') := ⟨by
    have q := mput_call W.drew _ L v T ps l va x n u xs fk fv fi ps1 hv hx p1 (D.out.then ((Below.refl _ _).drew)).m
    rw [e1, e3] at q
    exact q⟩
  have hz := szI_le n
  obtain ⟨k, hk⟩ : ∃ k : Nat, szI n = k := ⟨(szI n).toNat, by omega⟩
  have BC := Aside0.mk (fun W' => rbytes_call W' x n hx)
  rw [hk] at p2 e4
  rw [Int.toNat_natCast] at e4
  have BC := Aside0.mk (fun W' => (by have q := BC.out W'; rw [hk, Int.toNat_natCast] at q; exact q : Calls Try.prog 46 #[.int .u32 x, .int .i64 n] W' fun e w' => ∃ A c, e = .returned (.slice A k c) ∧ w'.ownsRow W'.heap.size 5 1 (.slice A k c) k (nums .u8 (byL x k)) ∧ Below W'.heap.size W' w'))
  have RL := Aside0.mk (fun i (f : rmine R vp ve i) => rmine_lt D.out.r i f)
  have PL : Aside0 (∀ W' v2 B A' c', DU w0 WF F W' L R v2 vp ve T ps' l' T pl qs l → (∀ i, rmine R vp ve i → i < B) → W'.ownsRow B 5 1 (.slice A' k c') k (nums .u8 (byL x k)) → Calls Try.prog 45 #[.pointer (some ⟨R.m, 0, none⟩), .int .u32 va, .bool u, .slice A' k c'] W' fun e w' => e = .returned (.agg #[.int .i64 fk, .int .u32 fv, .int .u32 fi]) ∧ RStep W' w' w0.heap.size R vp ve T pl qs' l') := ⟨fun W' v2 B A' c' kk hB ho => by
    have q := rstore_call W' _ R vp ve T pl qs l va u A' k c' (byL x k) xs fk fv fi qs1 (byL_length _ _) hv (by omega) (byL_bytes _ _) (own_reads' ho) (fun a ha hp f => by
      have h1 := hB _ (.inl f)
      have h2 := own_base ho a.block (by subst ha; rfl)
      omega) p2 kk.r
    rw [e2, e4] at q
    exact q⟩
  clear hv hx p1 p2 e1 e2 e3 e4 hz hk
  have hS : Aside0 (∀ W', Below W.heap.size W W' → W'.cell? ⟨w.heap.size, 1, none⟩ = some (.int .u32 va) ∧ W'.cell? ⟨w.heap.size, 2, none⟩ = some (.int .u32 x) ∧ W'.cell? ⟨w.heap.size, 3, none⟩ = some (.int .i64 n) ∧ W'.cell? ⟨w.heap.size, 4, none⟩ = some (.bool u)) := ⟨fun W' hW => ⟨cell_of_row _ _ 1 _ _ _ (row_then X.out hW), cell_of_row _ _ 2 _ _ _ (row_then X.out hW), cell_of_row _ _ 3 _ _ _ (row_then X.out hW), cell_of_row _ _ 4 _ _ _ (row_then X.out hW)⟩⟩
  have hS0 := hS.out W (Below.refl _ _)
  go_enter Try.func51, Try.ntmps51
  go_wp2_with fail
  go_region_held3 (fun W' => W'.cell? ⟨w.heap.size, 1, none⟩ = some (.int .u32 va) ∧ W'.cell? ⟨w.heap.size, 2, none⟩ = some (.int .u32 x) ∧ W'.cell? ⟨w.heap.size, 3, none⟩ = some (.int .i64 n) ∧ W'.cell? ⟨w.heap.size, 4, none⟩ = some (.bool u))
    (first | exact hS.out _ (by assumption) | exact hS.out _ ((Below.refl _ _).drew) | exact hS2.out _ (Below.refl _ _) | exact hS3.out _ (Below.refl _ _) | exact hS4.out _ (Below.refl _ _))
    (first
    | (go_at_call 40; (with_reducible refine (PG.out).mono ?_); rintro e w2 ⟨rfl, s⟩; have D2 := Aside0.mk ((D.out.then ((Below.refl _ _).drew)).stepM s); have X2 := Aside0.mk ((D.out.then ((Below.refl _ _).drew)).boxM s (row_then X.out ((Below.refl _ _).drew)) oTy_call); have Z2 := Aside0.mk (show W.heap.size ≤ w2.heap.size from s.chg.size); obtain ⟨v2, d2⟩ := D2.out; have D2 := Aside0.mk d2; have hS2 : Aside0 (∀ W', Below w2.heap.size w2 W' → W'.cell? ⟨w.heap.size, 1, none⟩ = some (.int .u32 va) ∧ W'.cell? ⟨w.heap.size, 2, none⟩ = some (.int .u32 x) ∧ W'.cell? ⟨w.heap.size, 3, none⟩ = some (.int .i64 n) ∧ W'.cell? ⟨w.heap.size, 4, none⟩ = some (.bool u)) := ⟨fun W' hW => ⟨cell_of_row _ _ 1 _ _ _ (row_then X2.out hW), cell_of_row _ _ 2 _ _ _ (row_then X2.out hW), cell_of_row _ _ 3 _ _ _ (row_then X2.out hW), cell_of_row _ _ 4 _ _ _ (row_then X2.out hW)⟩⟩; clear s d2)
    | (go_at_call 46; (with_reducible refine (BC.out _).mono ?_); rintro e w3 ⟨A3, c3, rfl, o3, hb⟩; have D3 := Aside0.mk (D2.out.then hb); have X3 := Aside0.mk (row_then X2.out hb); have O3 := Aside0.mk o3; have hS3 : Aside0 (∀ W', Below w3.heap.size w3 W' → W'.cell? ⟨w.heap.size, 1, none⟩ = some (.int .u32 va) ∧ W'.cell? ⟨w.heap.size, 2, none⟩ = some (.int .u32 x) ∧ W'.cell? ⟨w.heap.size, 3, none⟩ = some (.int .i64 n) ∧ W'.cell? ⟨w.heap.size, 4, none⟩ = some (.bool u)) := ⟨fun W' hW => ⟨cell_of_row _ _ 1 _ _ _ (row_then X3.out hW), cell_of_row _ _ 2 _ _ _ (row_then X3.out hW), cell_of_row _ _ 3 _ _ _ (row_then X3.out hW), cell_of_row _ _ 4 _ _ _ (row_then X3.out hW)⟩⟩; clear o3 hb)
    | (go_at_call 45; (with_reducible refine (PL.out _ _ w2.heap.size _ _ D3.out (fun i f => Nat.lt_of_lt_of_le (RL.out i f) Z2.out) O3.out).mono ?_); rintro e w4 ⟨rfl, st⟩; have D4 := Aside0.mk (D3.out.stepR st); have X4 := Aside0.mk (D3.out.boxR st X3.out oTy_call); have hS4 : Aside0 (∀ W', Below w4.heap.size w4 W' → W'.cell? ⟨w.heap.size, 1, none⟩ = some (.int .u32 va) ∧ W'.cell? ⟨w.heap.size, 2, none⟩ = some (.int .u32 x) ∧ W'.cell? ⟨w.heap.size, 3, none⟩ = some (.int .i64 n) ∧ W'.cell? ⟨w.heap.size, 4, none⟩ = some (.bool u)) := ⟨fun W' hW => ⟨cell_of_row _ _ 1 _ _ _ (row_then X4.out hW), cell_of_row _ _ 2 _ _ _ (row_then X4.out hW), cell_of_row _ _ 3 _ _ _ (row_then X4.out hW), cell_of_row _ _ 4 _ _ _ (row_then X4.out hW)⟩⟩; clear st))
  all_goals (
    obtain ⟨vp3, ve3, d3, _, _⟩ := D4.out
    have D5 := Aside0.mk d3
    go_wp2
    go_ret
    exact ⟨rfl, v2, vp3, ve3, D5.out⟩)
end Go.Proofs.Ytiogbgjeimdgmaa.RefWalk
