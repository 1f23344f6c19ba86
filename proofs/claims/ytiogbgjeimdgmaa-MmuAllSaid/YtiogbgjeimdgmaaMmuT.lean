/- Two MMUs over one memory. -/
import Derived.Test.YtiogbgjeimdgmaaMmuS
namespace Go.Proofs.Ytiogbgjeimdgmaa.MmuWalk
open Go.RowKit Go.Proofs.Ytiogbgjeimdgmaa.Aid Go.Proofs.YtiogbgjeimdgmaaW.PrintWords Go.Proofs.YtiogbgjeimdgmaaW.PrintLast Go.Proofs.YtiogbgjeimdgmaaW.PrintMore
open Go.Proofs.Ytiogbgjeimdgmaa.RamWalk (RamAt Bytes leN new_nat put_i load_n zeros_bytes putL putL_bytes putL_length)
open Go.Proofs.Ytiogbgjeimdgmaa.TlbWalk (TlbAt Kept2 putP dropP posP posP_page entP nil2 own_some own_val own_then)
set_option linter.unusedVariables false
set_option linter.unusedSimpArgs false
structure M2 (w0 W : World) (L1 L2 : Loc) (v1 v2 : Value) (T1 T2 : Tabs) (ps1 ps2 : List (Int × Int)) (l : List Int) : Prop where
  below : Below w0.heap.size w0 W
  at1 : MmuAt W w0.heap.size L1 v1 T1 ps1 l
  at2 : MmuAt W w0.heap.size L2 v2 T2 ps2 l
  nm : L1.m ≠ L2.m
  nt : L1.t ≠ L2.t
  nv : ∀ i, v1.ownBlock = some i → v2.ownBlock = some i → False
  er : L1.r = L2.r
  eb : L1.b = L2.b
  ec : L1.c = L2.c
theorem M2.swap {w0 W : World} {L1 L2 : Loc} {v1 v2 : Value} {T1 T2 : Tabs} {ps1 ps2 : List (Int × Int)} {l : List Int} (h : M2 w0 W L1 L2 v1 v2 T1 T2 ps1 ps2 l) : M2 w0 W L2 L1 v2 v1 T2 T1 ps2 ps1 l :=
  ⟨h.below, h.at2, h.at1, h.nm.symm, h.nt.symm, fun i a b => h.nv i b a, h.er.symm, h.eb.symm, h.ec.symm⟩
theorem M2.then {w0 W W' : World} {L1 L2 : Loc} {v1 v2 : Value} {T1 T2 : Tabs} {ps1 ps2 : List (Int × Int)} {l : List Int} (h : M2 w0 W L1 L2 v1 v2 T1 T2 ps1 ps2 l) (k : Below W.heap.size W W') : M2 w0 W' L1 L2 v1 v2 T1 T2 ps1 ps2 l :=
  ⟨below_step h.below k, h.at1.then k, h.at2.then k, h.nm, h.nt, h.nv, h.er, h.eb, h.ec⟩
theorem two_ty {W : World} {i j : Nat} {c1 c2 : Array Value} {t1 t2 : TypeId} {f1 f2 : Nat × Nat} (h1 : W.heap[i]? = some (.cells c1 t1 f1)) (h2 : W.heap[j]? = some (.cells c2 t2 f2)) (h : t1 ≠ t2) : i ≠ j := fun e => by
  rw [e, h2] at h1
  simp only [Option.some.injEq, Obj.cells.injEq] at h1
  exact h h1.2.1.symm
theorem M2.step1 {w0 W W' : World} {L1 L2 : Loc} {v1 v2 : Value} {T1 T1' T2 : Tabs} {ps1 ps1' ps2 : List (Int × Int)} {l : List Int} (h : M2 w0 W L1 L2 v1 v2 T1 T2 ps1 ps2 l) (s : MStep W W' w0.heap.size L1 v1 T1' ps1' l) : ∃ v1', M2 w0 W' L1 L2 v1' v2 T1' T2 ps1' ps2 l := by
  obtain ⟨⟨v1', m1, nx⟩, c⟩ := s
  have hb1 : ∃ cur, W.heap[L1.b]? = some (.cells cur 5 (0, 0)) := row_ty h.at1.ram.2.2.1 _ rfl
  obtain ⟨cb, hb1⟩ := hb1
  have k1 : ∀ i cs ty, W.heap[i]? = some (.cells cs ty (0, 0)) → ty = 107 → i ≠ L1.m → ¬ foot L1 v1 i := fun i cs ty hi e hn f => by
    subst e
    rcases f with f | f | f | f
    · exact hn f
    · exact two_ty hi h.at1.tlb.1 (by decide) f
    · exact two_ty hi hb1 (by decide) f
    · obtain ⟨cur, hc⟩ := row_ty h.at1.tlb.2.2.1 _ f.symm
      exact two_ty hi hc (by decide) rfl
  have k2 : ∀ i cs ty, W.heap[i]? = some (.cells cs ty (0, 0)) → ty = 132 → i ≠ L1.t → ¬ foot L1 v1 i := fun i cs ty hi e hn f => by
    subst e
    rcases f with f | f | f | f
    · exact two_ty hi h.at1.blk (by decide) f
    · exact hn f
    · exact two_ty hi hb1 (by decide) f
    · obtain ⟨cur, hc⟩ := row_ty h.at1.tlb.2.2.1 _ f.symm
      exact two_ty hi hc (by decide) rfl
  have k3 : ∀ i cs ty, W.heap[i]? = some (.cells cs ty (0, 0)) → ty = 136 → v1.ownBlock ≠ some i → ¬ foot L1 v1 i := fun i cs ty hi e hn f => by
    subst e
    rcases f with f | f | f | f
    · exact two_ty hi h.at1.blk (by decide) f
    · exact two_ty hi h.at1.tlb.1 (by decide) f
    · exact two_ty hi hb1 (by decide) f
    · exact hn f.symm
  refine ⟨v1', c.below h.below (fun i hi => foot_ge1 h.at1 i hi), m1, ⟨?_, h.at2.ge, ?_, ⟨?_, h.at2.tlb.2.1, ?_, h.at2.tlb.2.2.2⟩, h.at2.by_, h.at2.ok, h.at2.ents⟩, h.nm, h.nt, fun i a b => ?_, h.er, h.eb, h.ec⟩
  · exact (c.block _ (Array.getElem?_eq_some_iff.1 h.at2.blk).1 (k1 _ _ _ h.at2.blk rfl h.nm.symm)).trans h.at2.blk
  · have := m1.ram
    rw [h.er, h.eb, h.ec] at this
    exact this
  · exact (c.block _ (Array.getElem?_eq_some_iff.1 h.at2.tlb.1).1 (k2 _ _ _ h.at2.tlb.1 rfl h.nt.symm)).trans h.at2.tlb.1
  · refine own_keep h.at2.tlb.2.2.1 fun i hi => ?_
    obtain ⟨cur, hc⟩ := row_ty h.at2.tlb.2.2.1 i hi
    exact c.block i (Array.getElem?_eq_some_iff.1 hc).1 (k3 _ _ _ hc rfl (fun e => h.nv i e hi))
  · rcases nx i a with a | a
    · exact h.nv i a b
    · obtain ⟨cur, hc⟩ := row_ty h.at2.tlb.2.2.1 i b
      have := (Array.getElem?_eq_some_iff.1 hc).1
      omega
/-- Two MMUs over one memory, whose buffers tell what stands in it. -/
def R2 (w0 W : World) (L1 L2 : Loc) (T : Tabs) (l : List Int) : Prop := ∃ v1 v2 ps1 ps2, M2 w0 W L1 L2 v1 v2 T T ps1 ps2 l ∧ Cons T l ps1 ∧ Cons T l ps2
theorem R2.below {w0 W : World} {L1 L2 : Loc} {T : Tabs} {l : List Int} (h : R2 w0 W L1 L2 T l) : Below w0.heap.size w0 W := by
  obtain ⟨v1, v2, ps1, ps2, m, _, _⟩ := h
  exact m.below
theorem R2.then {w0 W W' : World} {L1 L2 : Loc} {T : Tabs} {l : List Int} (h : R2 w0 W L1 L2 T l) (k : Below W.heap.size W W') : R2 w0 W' L1 L2 T l := by
  obtain ⟨v1, v2, ps1, ps2, m, c1, c2⟩ := h
  exact ⟨v1, v2, ps1, ps2, m.then k, c1, c2⟩
theorem R2.swap {w0 W : World} {L1 L2 : Loc} {T : Tabs} {l : List Int} (h : R2 w0 W L1 L2 T l) : R2 w0 W L2 L1 T l := by
  obtain ⟨v1, v2, ps1, ps2, m, c1, c2⟩ := h
  exact ⟨v2, v1, ps2, ps1, m.swap, c2, c1⟩
/-- What Get tells of the memory. -/
def Tells (T : Tabs) (l : List Int) (u : Bool) (va n : Int) (x : Int) (f : Flt) : Prop := ∃ xs k ps ps', Cons T l ps ∧ Pcs T l u false k ps va n xs f ps' ∧ x = leN (loadL l xs)
theorem Tells.same {T : Tabs} {l : List Int} {u : Bool} {va n x y : Int} {f g : Flt} (h : Tells T l u va n x f) (k : Tells T l u va n y g) : y = x ∧ g = f := by
  obtain ⟨xs, _, _, _, c, p, rfl⟩ := h
  obtain ⟨ys, _, _, _, c2, p2, rfl⟩ := k
  obtain ⟨rfl, rfl⟩ := (p.same c).2 p2 c2
  exact ⟨rfl, rfl⟩
/-- Boxes of other kinds stay. -/
def Stay (W W' : World) : Prop := ∀ (i : Nat) (cs : Array Value) (ty : TypeId) (fr : Nat × Nat), W.heap[i]? = some (.cells cs ty fr) → ¬ mTy ty → W'.heap[i]? = some (.cells cs ty fr)
theorem rget1 (w0 W : World) (L1 L2 : Loc) (T : Tabs) (l : List Int) (va : Int) (u : Bool) (hv : R32 va) (h : R2 w0 W L1 L2 T l) :
    Calls Try.prog 29 #[.pointer (some ⟨L1.m, 0, none⟩), .int .u32 va, .int .i64 4, .bool u] W fun e w' => ∃ x fk fv fi, Tells T l u va 4 x (fk, fv, fi) ∧ e = .returned (.tuple #[.int .u32 x, .agg #[.int .i64 fk, .int .u32 fv, .int .u32 fi]]) ∧ R2 w0 w' L1 L2 T l ∧ Stay W w' := by
  obtain ⟨v1, v2, ps1, ps2, m, c1, c2⟩ := h
  refine (mget_call W _ L1 v1 T ps1 l va 4 u hv m.at1).mono ?_
  rintro e w' ⟨xs, fk, fv, fi, ps', hp, rfl, s⟩
  rw [show szI 4 = 4 by decide] at hp
  obtain ⟨v1', m'⟩ := m.step1 s
  exact ⟨_, fk, fv, fi, ⟨xs, _, _, _, c1, hp, rfl⟩, rfl, ⟨v1', v2, ps', ps2, m', (hp.same c1).1, c2⟩, fun i cs ty fr hi ht => box_ty m.at1 hi ht s⟩
theorem rget2 (w0 W : World) (L1 L2 : Loc) (T : Tabs) (l : List Int) (va : Int) (u : Bool) (hv : R32 va) (x fk fv fi : Int) (ht : Tells T l u va 4 x (fk, fv, fi)) (h : R2 w0 W L1 L2 T l) :
    Calls Try.prog 29 #[.pointer (some ⟨L2.m, 0, none⟩), .int .u32 va, .int .i64 4, .bool u] W fun e w' => e = .returned (.tuple #[.int .u32 x, .agg #[.int .i64 fk, .int .u32 fv, .int .u32 fi]]) ∧ R2 w0 w' L1 L2 T l ∧ Stay W w' := by
  refine (rget1 w0 W L2 L1 T l va u hv h.swap).mono ?_
  rintro e w' ⟨y, gk, gv, gi, t2, rfl, r, k⟩
  obtain ⟨rfl, hf⟩ := ht.same t2
  simp only [Prod.mk.injEq] at hf
  obtain ⟨rfl, rfl, rfl⟩ := hf
  exact ⟨rfl, r.swap, k⟩
theorem rclear (w0 W : World) (L1 L2 : Loc) (T : Tabs) (l : List Int) (h : R2 w0 W L1 L2 T l) :
    Calls Try.prog 30 #[.pointer (some ⟨L2.m, 0, none⟩)] W fun e w' => e = .returned (.tuple #[]) ∧ R2 w0 w' L1 L2 T l := by
  obtain ⟨v1, v2, ps1, ps2, m, c1, c2⟩ := h
  refine (mclear_call W _ L2 v2 T ps2 l m.at2).mono ?_
  rintro e w' ⟨rfl, s⟩
  obtain ⟨v2', m'⟩ := m.swap.step1 s
  exact ⟨rfl, v1, v2', ps1, [], m'.swap, c1, Cons.nil _ _⟩
theorem rdrop (w0 W : World) (L1 L2 : Loc) (T : Tabs) (l : List Int) (va : Int) (h : R2 w0 W L1 L2 T l) :
    Calls Try.prog 31 #[.pointer (some ⟨L2.m, 0, none⟩), .int .u32 va] W fun e w' => e = .returned (.tuple #[]) ∧ R2 w0 w' L1 L2 T l := by
  obtain ⟨v1, v2, ps1, ps2, m, c1, c2⟩ := h
  refine (mdrop_call W _ L2 v2 T ps2 l va m.at2).mono ?_
  rintro e w' ⟨rfl, s⟩
  obtain ⟨v2', m'⟩ := m.swap.step1 s
  exact ⟨rfl, v1, v2', ps1, _, m'.swap, c1, c2.drop _⟩
/-- Two new ones. -/
def N2 (w0 W : World) (L1 L2 : Loc) (T1 T2 : Tabs) (l : List Int) : Prop := ∃ v1 v2, M2 w0 W L1 L2 v1 v2 T1 T2 [] [] l
theorem N2.r2 {w0 W : World} {L1 L2 : Loc} {T : Tabs} {l : List Int} (h : N2 w0 W L1 L2 T T l) : R2 w0 W L1 L2 T l := by
  obtain ⟨v1, v2, m⟩ := h
  exact ⟨v1, v2, [], [], m, Cons.nil _ _, Cons.nil _ _⟩
theorem n2new (w0 W : World) (L1 : Loc) (l : List Int) (h : M1 w0 W L1 noT [] l) :
    Calls Try.prog 18 #[.pointer (some ⟨L1.r, 0, none⟩)] W fun e w' => ∃ L2 : Loc, e = .returned (.pointer (some ⟨L2.m, 0, none⟩)) ∧ N2 w0 w' L1 L2 noT noT l := by
  obtain ⟨b, v, m⟩ := h
  refine (mnew_call W _ L1.r L1.b L1.c l m.ram m.by_).mono ?_
  rintro e w' ⟨g, t, rfl, k, hb', hg, ht⟩
  have h1 := m.lt
  have h2 := (Array.getElem?_eq_some_iff.1 m.tlb.1).1
  exact ⟨⟨g, L1.r, L1.b, L1.c, t⟩, rfl, v, _, below_step b hb', m.then hb', k, (by show L1.m ≠ g; omega), (by show L1.t ≠ t; omega), fun i _ e => by simp [Value.ownBlock] at e, rfl, rfl, rfl⟩
theorem n2set1 (w0 W : World) (L1 L2 : Loc) (T1 T2 T' : Tabs) (l : List Int) (h : N2 w0 W L1 L2 T1 T2 l) (hT : T'.ok) :
    Calls Try.prog 20 #[.pointer (some ⟨L1.m, 0, none⟩), .agg #[.int .u32 T'.p0b, .int .u32 T'.p0l, .int .u32 T'.sb, .int .u32 T'.sl, .int .u32 T'.men]] W fun e w' => e = .returned (.tuple #[]) ∧ N2 w0 w' L1 L2 T' T2 l ∧ Stay W w' := by
  obtain ⟨v1, v2, m⟩ := h
  refine (mset_call W _ L1 v1 T1 T' [] l m.at1 hT).mono ?_
  rintro e w' ⟨rfl, s⟩
  obtain ⟨v1', m'⟩ := m.step1 s
  exact ⟨rfl, ⟨v1', v2, m'⟩, fun i cs ty fr hi ht => box_ty m.at1 hi ht s⟩
theorem N2.swap {w0 W : World} {L1 L2 : Loc} {T1 T2 : Tabs} {l : List Int} (h : N2 w0 W L1 L2 T1 T2 l) : N2 w0 W L2 L1 T2 T1 l := by
  obtain ⟨v1, v2, m⟩ := h
  exact ⟨v2, v1, m.swap⟩
end Go.Proofs.Ytiogbgjeimdgmaa.MmuWalk
