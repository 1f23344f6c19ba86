/- One MMU: its calls over one state, what they tell known ahead. -/
import Derived.Test.YtiogbgjeimdgmaaMmvB
namespace Go.Proofs.Ytiogbgjeimdgmaa.MmuWalk
open Go.RowKit Go.Proofs.Ytiogbgjeimdgmaa.Aid Go.Proofs.YtiogbgjeimdgmaaW.PrintWords Go.Proofs.YtiogbgjeimdgmaaW.PrintLast Go.Proofs.YtiogbgjeimdgmaaW.PrintMore
open Go.Proofs.Ytiogbgjeimdgmaa.RamWalk (RamAt Bytes leN bytes_n put_i get_i get_bus_i putL putL_length putL_bytes)
open Go.Proofs.Ytiogbgjeimdgmaa.TlbWalk (TlbAt putP posP entP nil2 own_some own_val own_then)
set_option linter.unusedVariables false
set_option linter.unusedSimpArgs false
theorem qprobe_is (w0 W : World) (L : Loc) (T : Tabs) (ps : List (Int × Int)) (l : List Int) (va n : Int) (u wt : Bool) (hv : R32 va) (hn : n ≤ 65536) (hn0 : -9223372036854775808 ≤ n) (xs : List Pc) (fk fv fi : Int) (ps' : List (Int × Int)) (hp : Pcs T l u wt true ps va n xs (fk, fv, fi) ps') (h : M1 w0 W L T ps l) :
    Calls Try.prog 35 #[.pointer (some ⟨L.m, 0, none⟩), .int .u32 va, .int .i64 n, .bool u, .bool wt] W fun e w' => e = .returned (.agg #[.int .i64 fk, .int .u32 fv, .int .u32 fi]) ∧ M1 w0 w' L T ps' l ∧ Stay W w' ∧ RowStay W w' L := by
  obtain ⟨b, v, m⟩ := h
  refine (probe_call W _ L v T ps l va n u wt hv hn hn0 m).mono ?_
  rintro e w' ⟨ys, f, ps2, h1, rfl, s⟩
  obtain ⟨rfl, rfl, rfl⟩ := hp.det h1
  exact ⟨rfl, M1.step b m s, fun i cs ty fr hi ht => box_ty m hi ht s, row_stay m s⟩
theorem qget_is (w0 W : World) (L : Loc) (T : Tabs) (ps : List (Int × Int)) (l : List Int) (va n : Int) (u : Bool) (hv : R32 va) (xs : List Pc) (fk fv fi : Int) (ps' : List (Int × Int)) (hp : Pcs T l u false true ps va (szI n) xs (fk, fv, fi) ps') (h : M1 w0 W L T ps l) :
    Calls Try.prog 29 #[.pointer (some ⟨L.m, 0, none⟩), .int .u32 va, .int .i64 n, .bool u] W fun e w' => e = .returned (.tuple #[.int .u32 (leN (loadL l xs)), .agg #[.int .i64 fk, .int .u32 fv, .int .u32 fi]]) ∧ M1 w0 w' L T ps' l ∧ Stay W w' ∧ RowStay W w' L := by
  obtain ⟨b, v, m⟩ := h
  refine (mget_call W _ L v T ps l va n u hv m).mono ?_
  rintro e w' ⟨ys, gk, gv, gi, ps2, h1, rfl, s⟩
  obtain ⟨rfl, h5, rfl⟩ := hp.det h1
  simp only [Prod.mk.injEq] at h5
  obtain ⟨rfl, rfl, rfl⟩ := h5
  exact ⟨rfl, M1.step b m s, fun i cs ty fr hi ht => box_ty m hi ht s, row_stay m s⟩
theorem qstore_is (w0 W : World) (L : Loc) (T : Tabs) (ps : List (Int × Int)) (l : List Int) (va : Int) (u : Bool) (A : Option Addr) (n c : Nat) (bs : List Int) (hlen : bs.length = n) (hv : R32 va) (hn : n ≤ 65536) (hb : Bytes bs) (hc : n ≤ c) (hr : ReadsInt w0 .u8 A n bs) (xs : List Pc) (fk fv fi : Int) (ps' : List (Int × Int)) (hp : Pcs T l u true true ps va n xs (fk, fv, fi) ps') (h : M1 w0 W L T ps l) :
    Calls Try.prog 38 #[.pointer (some ⟨L.m, 0, none⟩), .int .u32 va, .bool u, .slice A n c] W fun e w' => e = .returned (.agg #[.int .i64 fk, .int .u32 fv, .int .u32 fi]) ∧ M1 w0 w' L T (storeP T xs fk ps' l) (storeL T xs fk ps' l bs) ∧ Stay W w' ∧ RowStay W w' L := by
  subst hlen
  obtain ⟨b, v, m⟩ := h
  refine (store_call W _ L v T ps l va u A c bs xs fk fv fi ps' hv hn hb hc (hr.below b) (fun a ha hpos f => ?_) hp m).mono ?_
  · obtain ⟨ad, he, hc⟩ := hr.2.2 hpos
    have hbk := World.block_lt_of_cell? w0 _ (hc 0 hpos)
    rw [he] at ha
    simp only [Option.some.injEq] at ha
    subst ha
    have hz : (ad.add 0).block = ad.block := rfl
    rw [hz] at hbk
    have := foot_ge1 m _ f
    omega
  · rintro e w' ⟨rfl, s⟩
    exact ⟨rfl, M1.step b m s, fun i cs ty fr hi ht => box_ty m hi ht s, row_stay m s⟩
theorem qput_is (w0 W : World) (L : Loc) (T : Tabs) (ps : List (Int × Int)) (l : List Int) (va x n : Int) (u : Bool) (hv : R32 va) (hx : R32 x) (xs : List Pc) (fk fv fi : Int) (ps' : List (Int × Int)) (hp : Pcs T l u true true ps va (szI n) xs (fk, fv, fi) ps') (h : M1 w0 W L T ps l) :
    Calls Try.prog 40 #[.pointer (some ⟨L.m, 0, none⟩), .int .u32 va, .int .u32 x, .int .i64 n, .bool u] W fun e w' => e = .returned (.agg #[.int .i64 fk, .int .u32 fv, .int .u32 fi]) ∧ M1 w0 w' L T (storeP T xs fk ps' l) (storeL T xs fk ps' l (byL x (szI n).toNat)) ∧ Stay W w' ∧ RowStay W w' L := by
  obtain ⟨b, v, m⟩ := h
  refine (mput_call W _ L v T ps l va x n u xs fk fv fi ps' hv hx hp m).mono ?_
  rintro e w' ⟨rfl, s⟩
  exact ⟨rfl, M1.step b m s, fun i cs ty fr hi ht => box_ty m hi ht s, row_stay m s⟩
/-- The memory read beside: all its bytes; a number. -/
theorem qbytes (w0 W : World) (L : Loc) (T : Tabs) (ps : List (Int × Int)) (l : List Int) (n : Nat) (hn : l.length = n) (h : M1 w0 W L T ps l) :
    Calls Try.prog 37 #[.pointer (some ⟨L.r, 0, none⟩), .int .u32 0, .int .i64 n] W fun e w' => ∃ b' c', e = .returned (.tuple #[.slice (some ⟨b', 0, none⟩) n c', .int .i64 0]) ∧ w'.ownsRow W.heap.size 5 1 (.slice (some ⟨b', 0, none⟩) n c') n (nums .u8 l) ∧ M1 w0 w' L T ps l ∧ Below W.heap.size W w' ∧ L.b < W.heap.size := by
  obtain ⟨b, v, m⟩ := h
  subst hn
  refine (bytes_n W _ L.r L.b l.length L.c l l 0 l.length (by decide) m.ram (by omega) (by rw [List.drop_zero, List.take_length])).mono ?_
  rintro e w' ⟨b', c', rfl, ho, hb⟩
  exact ⟨b', c', rfl, ho, ⟨below_step b hb, v, m.then hb⟩, hb, lb_lt m⟩
theorem qrget (w0 W : World) (L : Loc) (T : Tabs) (ps : List (Int × Int)) (l : List Int) (a x : Int) (ha0 : 0 ≤ a) (ha : a < 4294967296) (hl : a + 4 ≤ l.length) (hx : leN ((l.drop a.toNat).take 4) = x) (h : M1 w0 W L T ps l) :
    Calls Try.prog 41 #[.pointer (some ⟨L.r, 0, none⟩), .int .u32 a, .int .i64 4] W fun e w' => e = .returned (.tuple #[.int .u32 x, .int .i64 0]) ∧ W = w' := by
  obtain ⟨b, v, m⟩ := h
  exact get_i W _ L.r L.b l.length L.c l m.by_ a 4 ha0 ha m.ram (by decide) hl (by decide) x hx
end Go.Proofs.Ytiogbgjeimdgmaa.MmuWalk
