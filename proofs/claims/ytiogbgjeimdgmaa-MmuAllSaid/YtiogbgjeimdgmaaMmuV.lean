/- One MMU whose buffer tells what stands in the memory: its calls. -/
import Derived.Test.YtiogbgjeimdgmaaMmuU
namespace Go.Proofs.Ytiogbgjeimdgmaa.MmuWalk
open Go.RowKit Go.Proofs.Ytiogbgjeimdgmaa.Aid Go.Proofs.YtiogbgjeimdgmaaW.PrintWords Go.Proofs.YtiogbgjeimdgmaaW.PrintLast Go.Proofs.YtiogbgjeimdgmaaW.PrintMore
open Go.Proofs.Ytiogbgjeimdgmaa.RamWalk (RamAt Bytes leN leN_bounds)
open Go.Proofs.Ytiogbgjeimdgmaa.TlbWalk (TlbAt Kept2 putP dropP posP posP_page entP nil2 own_some own_val own_then)
set_option linter.unusedVariables false
set_option linter.unusedSimpArgs false
def P1 (w0 W : World) (L : Loc) (T : Tabs) (l : List Int) : Prop := ∃ ps, M1 w0 W L T ps l ∧ Cons T l ps
theorem P1.below {w0 W : World} {L : Loc} {T : Tabs} {l : List Int} (h : P1 w0 W L T l) : Below w0.heap.size w0 W := by
  obtain ⟨_, m, _⟩ := h
  exact m.1
theorem P1.then {w0 W W' : World} {L : Loc} {T : Tabs} {l : List Int} (h : P1 w0 W L T l) (k : Below W.heap.size W W') : P1 w0 W' L T l := by
  obtain ⟨ps, m, c⟩ := h
  exact ⟨ps, m.then k, c⟩
/-- Rows of bytes made behind the memory's stay. -/
def RowStay (W W' : World) (L : Loc) : Prop := ∀ B v n xs, L.b < B → W.ownsRow B 5 1 v n xs → W'.ownsRow B 5 1 v n xs
theorem row_stay {W W' : World} {base : Nat} {L : Loc} {v : Value} {T T' : Tabs} {ps ps' : List (Int × Int)} {l l' : List Int} (m : MmuAt W base L v T ps l) (s : MStep W W' base L v T' ps' l') : RowStay W W' L := fun B vo n xs hB ho =>
  own_keep ho fun i hi => by
    obtain ⟨cur, hc⟩ := row_ty ho i hi
    have hge := own_base ho i hi
    refine s.chg.block i (Array.getElem?_eq_some_iff.1 hc).1 (fun f => ?_)
    rcases f with f | f | f | f
    · exact two_ty hc m.blk (by decide) f
    · exact two_ty hc m.tlb.1 (by decide) f
    · omega
    · obtain ⟨cur2, hc2⟩ := row_ty m.tlb.2.2.1 _ f.symm
      exact two_ty hc hc2 (by decide) rfl
theorem lb_lt {W : World} {base : Nat} {L : Loc} {v : Value} {T : Tabs} {ps : List (Int × Int)} {l : List Int} (m : MmuAt W base L v T ps l) : L.b < W.heap.size := by
  obtain ⟨cur, hc⟩ := row_ty m.ram.2.2.1 L.b rfl
  exact (Array.getElem?_eq_some_iff.1 hc).1
theorem ppeek (w0 W : World) (L : Loc) (T : Tabs) (l : List Int) (va : Int) (u : Bool) (hv : R32 va) (c fk fv fi : Int) (hp : peekF T [] l va u = (c, fk, fv, fi)) (h : M1 w0 W L T [] l) :
    Calls Try.prog 32 #[.pointer (some ⟨L.m, 0, none⟩), .int .u32 va, .bool u] W fun e w' => e = .returned (.tuple #[.int .u8 c, .agg #[.int .i64 fk, .int .u32 fv, .int .u32 fi]]) ∧ M1 w0 w' L T [] l := by
  obtain ⟨b, v, m⟩ := h
  refine (peek_call W _ L v T [] l va u hv m).mono ?_
  rintro e w' ⟨rfl, s⟩
  rw [hp]
  exact ⟨rfl, M1.step b m s⟩
theorem pbuf (w0 W : World) (L : Loc) (T : Tabs) (l : List Int) (h : M1 w0 W L T [] l) :
    Calls Try.prog 33 #[.pointer (some ⟨L.m, 0, none⟩)] W fun e w' => ∃ A c, e = .returned (.slice A 0 c) ∧ M1 w0 w' L T [] l ∧ Below W.heap.size W w' := by
  obtain ⟨b, v, m⟩ := h
  refine (mbuf_call W _ L v T [] l m).mono ?_
  rintro e w' ⟨A, c, rfl, _, hb⟩
  exact ⟨A, c, rfl, ⟨below_step b hb, v, m.then hb⟩, hb⟩
theorem pload1 (w0 W : World) (L : Loc) (T : Tabs) (l : List Int) (va : Int) (u : Bool) (hv : R32 va) (c fk fv fi : Int) (hp : peekF T [] l va u = (c, fk, fv, fi)) (h : M1 w0 W L T [] l) :
    Calls Try.prog 34 #[.pointer (some ⟨L.m, 0, none⟩), .int .u32 va, .int .i64 1, .bool u] W fun e w' => ∃ A k bs, e = .returned (.tuple #[.slice A bs.length k, .agg #[.int .i64 fk, .int .u32 fv, .int .u32 fi]]) ∧ (fk = 0 → bs = [c]) ∧ P1 w0 w' L T l ∧ w'.ownsRow W.heap.size 5 1 (.slice A bs.length k) bs.length (nums .u8 bs) ∧ Stay W w' := by
  obtain ⟨b, v, m⟩ := h
  refine (load_call W _ L v T [] l va 1 u hv (by decide) (by decide) m).mono ?_
  rintro e w' ⟨A, k, xs, gk, gv, gi, ps', hx, rfl, s, ho⟩
  obtain ⟨h1, h2⟩ := peek_load hv hx
  rw [hp] at h1 h2
  simp only [Prod.mk.injEq] at h1
  obtain ⟨rfl, rfl, rfl⟩ := h1
  exact ⟨A, k, loadL l xs, rfl, h2, ⟨ps', M1.step b m s, (hx.same (Cons.nil _ _)).1⟩, ho, fun i cs ty fr hi ht => box_ty m hi ht s⟩
theorem pget (w0 W : World) (L : Loc) (T : Tabs) (l : List Int) (va n : Int) (u : Bool) (hv : R32 va) (hn : 0 ≤ n) (h4 : n ≤ 4) (h : P1 w0 W L T l) :
    Calls Try.prog 29 #[.pointer (some ⟨L.m, 0, none⟩), .int .u32 va, .int .i64 n, .bool u] W fun e w' => ∃ x fk fv fi, Tells T l u va n x (fk, fv, fi) ∧ e = .returned (.tuple #[.int .u32 x, .agg #[.int .i64 fk, .int .u32 fv, .int .u32 fi]]) ∧ P1 w0 w' L T l ∧ Stay W w' := by
  obtain ⟨ps, ⟨b, v, m⟩, c⟩ := h
  refine (mget_call W _ L v T ps l va n u hv m).mono ?_
  rintro e w' ⟨xs, fk, fv, fi, ps', hp, rfl, s⟩
  rw [show szI n = n by unfold szI; rw [if_neg (show ¬ n < 0 by omega), if_neg (by omega)]] at hp
  exact ⟨_, fk, fv, fi, ⟨xs, _, _, _, c, hp, rfl⟩, rfl, ⟨ps', M1.step b m s, (hp.same c).1⟩, fun i cs ty fr hi ht => box_ty m hi ht s⟩
theorem pload (w0 W : World) (L : Loc) (T : Tabs) (l : List Int) (va n : Int) (u : Bool) (hv : R32 va) (hn : 0 ≤ n) (h4 : n ≤ 4) (x fk fv fi : Int) (ht : Tells T l u va n x (fk, fv, fi)) (h : P1 w0 W L T l) :
    Calls Try.prog 34 #[.pointer (some ⟨L.m, 0, none⟩), .int .u32 va, .int .i64 n, .bool u] W fun e w' => ∃ A k bs, e = .returned (.tuple #[.slice A bs.length k, .agg #[.int .i64 fk, .int .u32 fv, .int .u32 fi]]) ∧ leN bs = x ∧ bs.length ≤ 4 ∧ Bytes bs ∧ P1 w0 w' L T l ∧ w'.ownsRow W.heap.size 5 1 (.slice A bs.length k) bs.length (nums .u8 bs) ∧ L.b < W.heap.size ∧ Stay W w' := by
  obtain ⟨ps, ⟨b, v, m⟩, c⟩ := h
  refine (load_call W _ L v T ps l va n u hv (by omega) (by omega) m).mono ?_
  rintro e w' ⟨A, k, xs, gk, gv, gi, ps', hx, rfl, s, ho⟩
  obtain ⟨ys, _, _, _, c2, p2, rfl⟩ := ht
  obtain ⟨h1, h2⟩ := (hx.same c).2 p2 c2
  simp only [Prod.mk.injEq] at h2
  obtain ⟨rfl, rfl, rfl⟩ := h2
  have := hx.sum
  exact ⟨A, k, loadL l xs, rfl, by rw [h1], by omega, loadL_bytes m.by_ xs, ⟨ps', M1.step b m s, (hx.same c).1⟩, ho, lb_lt m, fun i cs ty fr hi ht => box_ty m hi ht s⟩
theorem pprobe (w0 W : World) (L : Loc) (T : Tabs) (l : List Int) (va n : Int) (u : Bool) (hv : R32 va) (hn : 0 ≤ n) (h4 : n ≤ 4) (x fk fv fi : Int) (ht : Tells T l u va n x (fk, fv, fi)) (h : P1 w0 W L T l) :
    Calls Try.prog 35 #[.pointer (some ⟨L.m, 0, none⟩), .int .u32 va, .int .i64 n, .bool u, .bool false] W fun e w' => e = .returned (.agg #[.int .i64 fk, .int .u32 fv, .int .u32 fi]) ∧ P1 w0 w' L T l ∧ Stay W w' ∧ RowStay W w' L := by
  obtain ⟨ps, ⟨b, v, m⟩, c⟩ := h
  refine (probe_call W _ L v T ps l va n u false hv (by omega) (by omega) m).mono ?_
  rintro e w' ⟨xs, f, ps', hx, rfl, s⟩
  obtain ⟨ys, _, _, _, c2, p2, rfl⟩ := ht
  obtain ⟨h1, h2⟩ := (hx.same c).2 p2 c2
  rw [← h2]
  exact ⟨rfl, ⟨ps', M1.step b m s, (hx.same c).1⟩, fun i cs ty fr hi ht => box_ty m hi ht s, row_stay m s⟩
end Go.Proofs.Ytiogbgjeimdgmaa.MmuWalk
