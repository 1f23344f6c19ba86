/- Three buffers that know nothing of one another: what each function of layer 4 leaves of them. -/
import Derived.Test.YtocjadgakalbdaaTlbF
namespace Go.Proofs.Ytocjadgakalbdaa.TlbWalk
open Go.RowKit Go.Proofs.Ytocjadgakalbdaa.Aid Go.Proofs.YtocjadgakalbdaaW.PrintWords Go.Proofs.YtocjadgakalbdaaW.PrintLast Go.Proofs.YtocjadgakalbdaaW.PrintMore
set_option linter.unusedVariables false

theorem other_step {w w' : World} {base base' g g' : Nat} {v v1 v' : Value} {ps ps' : List (Int × Int)} (t : TlbAt w base g v ps) (u : TlbAt w base' g' v' ps') (hne : g' ≠ g) (hr : NeRow v v') (k : Kept2 w w' g v.ownBlock)
    (hv1 : v1.ownBlock = v.ownBlock ∨ ∃ b, v1.ownBlock = some b ∧ w.heap.size ≤ b) : TlbAt w' base' g' v' ps' ∧ NeRow v1 v' := by
  refine ⟨u.other t k hne hr, fun b hb hb' => ?_⟩
  rcases hv1 with e | ⟨c, e, hc⟩
  · exact hr b (e ▸ hb) hb'
  · have := (u.row b hb').2.1
    rw [e] at hb
    simp only [Option.some.injEq] at hb
    omega
/-- Blocks of other types stay. -/
def KeepTy (w w' : World) : Prop := ∀ (b : Nat) (cs : Array Value) (ty : TypeId) (fr : Nat × Nat), w.heap[b]? = some (Obj.cells cs ty fr) → ty ≠ 63 → ty ≠ 66 → w'.heap[b]? = some (Obj.cells cs ty fr)
theorem KeepTy.of {w w' : World} {base g : Nat} {v : Value} {ps : List (Int × Int)} (t : TlbAt w base g v ps) (k : Kept2 w w' g v.ownBlock) : KeepTy w w' := by
  intro b cs ty fr h h1 h2
  refine (k.block b (Array.getElem?_eq_some_iff.1 h).1 ?_ ?_).trans h
  · rintro rfl
    rw [t.1] at h
    simp only [Option.some.injEq, Obj.cells.injEq] at h
    exact h1 h.2.1.symm
  · intro e
    rcases t.2.2.1.2 with ⟨rfl, _⟩ | ⟨b', c, cur, rfl, _, hh, _⟩
    · simp [Value.ownBlock] at e
    · simp only [Value.ownBlock, Option.some.injEq] at e
      subst e
      rw [hh] at h
      simp only [Option.some.injEq, Obj.cells.injEq] at h
      exact h2 h.2.1.symm
theorem KeepTy.of_below {w w' : World} (h : Below w.heap.size w w') : KeepTy w w' := fun b cs ty fr hb _ _ => (h.block b (Array.getElem?_eq_some_iff.1 hb).1).trans hb

def Trio (w wr : World) (g gu gv : Nat) (ps qs rs : List (Int × Int)) : Prop :=
  Below w.heap.size w wr ∧ g ≠ gu ∧ g ≠ gv ∧ gu ≠ gv ∧ ∃ v1 v2 v3, TlbAt wr w.heap.size g v1 ps ∧ TlbAt wr w.heap.size gu v2 qs ∧ TlbAt wr w.heap.size gv v3 rs ∧ NeRow v1 v2 ∧ NeRow v1 v3 ∧ NeRow v2 v3
theorem Trio.swap {w wr : World} {g gu gv : Nat} {ps qs rs : List (Int × Int)} (h : Trio w wr g gu gv ps qs rs) : Trio w wr gu g gv qs ps rs := by
  obtain ⟨h0, h1, h2, h3, v1, v2, v3, t1, t2, t3, n1, n2, n3⟩ := h
  exact ⟨h0, h1.symm, h3, h2, v2, v1, v3, t2, t1, t3, ne_symm n1, n3, n2⟩
theorem Trio.last {w wr : World} {g gu gv : Nat} {ps qs rs : List (Int × Int)} (h : Trio w wr g gu gv ps qs rs) : Trio w wr gv gu g rs qs ps := by
  obtain ⟨h0, h1, h2, h3, v1, v2, v3, t1, t2, t3, n1, n2, n3⟩ := h
  exact ⟨h0, h3.symm, h2.symm, h1.symm, v3, v2, v1, t3, t2, t1, ne_symm n3, ne_symm n2, ne_symm n1⟩
theorem Trio.then {w wr wr' : World} {g gu gv : Nat} {ps qs rs : List (Int × Int)} (h : Trio w wr g gu gv ps qs rs) (hb : Below wr.heap.size wr wr') : Trio w wr' g gu gv ps qs rs := by
  obtain ⟨h0, h1, h2, h3, v1, v2, v3, t1, t2, t3, n1, n2, n3⟩ := h
  exact ⟨below_step h0 hb, h1, h2, h3, v1, v2, v3, t1.then hb, t2.then hb, t3.then hb, n1, n2, n3⟩
theorem Trio.step {w wr w' : World} {g gu gv : Nat} {v1 v1' : Value} {ps ps' qs rs : List (Int × Int)} (h : Trio w wr g gu gv ps qs rs) (hv : TlbAt wr w.heap.size g v1 ps)
    (ht : TlbAt w' w.heap.size g v1' ps') (k : Kept2 wr w' g v1.ownBlock) (hv1 : v1'.ownBlock = v1.ownBlock ∨ ∃ b, v1'.ownBlock = some b ∧ wr.heap.size ≤ b) : Trio w w' g gu gv ps' qs rs ∧ KeepTy wr w' := by
  obtain ⟨h0, h1, h2, h3, x1, x2, x3, t1, t2, t3, n1, n2, n3⟩ := h
  have ev : x1 = v1 := by
    have := t1.1
    rw [hv.1] at this
    simpa using this.symm
  subst ev
  obtain ⟨a2, b2⟩ := other_step t1 t2 h1.symm n1 k hv1
  obtain ⟨a3, b3⟩ := other_step t1 t3 h2.symm n2 k hv1
  exact ⟨⟨k.below h0 t1.2.1 (fun b hb => (t1.row b hb).1), h1, h2, h3, v1', x2, x3, ht, a2, a3, b2, b3, n3⟩, KeepTy.of t1 k⟩
theorem trio_put (w wr : World) (g gu gv : Nat) (ps qs rs : List (Int × Int)) (page entry : Int) (h : Trio w wr g gu gv ps qs rs) :
    Calls Try.prog 14 #[.pointer (some ⟨g, 0, none⟩), .int .u32 page, .int .u32 entry] wr fun e w' => e = .returned (.tuple #[]) ∧ Trio w w' g gu gv (putP page entry ps) qs rs ∧ KeepTy wr w' := by
  obtain ⟨v1, v2, v3, t1, _⟩ := h.2.2.2.2
  exact (put_call wr _ g v1 ps page entry t1).mono fun e w' ⟨he, v', ht, k, hv⟩ => ⟨he, h.step t1 ht k hv⟩
theorem trio_drop (w wr : World) (g gu gv : Nat) (ps qs rs : List (Int × Int)) (page : Int) (h : Trio w wr g gu gv ps qs rs) :
    Calls Try.prog 25 #[.pointer (some ⟨g, 0, none⟩), .int .u32 page] wr fun e w' => e = .returned (.tuple #[]) ∧ Trio w w' g gu gv (dropP page ps) qs rs ∧ KeepTy wr w' := by
  obtain ⟨v1, v2, v3, t1, _⟩ := h.2.2.2.2
  exact (drop_call wr _ g v1 ps page t1).mono fun e w' ⟨he, v', ht, k, hv⟩ => ⟨he, h.step t1 ht k hv⟩
theorem trio_clear (w wr : World) (g gu gv : Nat) (ps qs rs : List (Int × Int)) (h : Trio w wr g gu gv ps qs rs) :
    Calls Try.prog 29 #[.pointer (some ⟨g, 0, none⟩)] wr fun e w' => e = .returned (.tuple #[]) ∧ Trio w w' g gu gv [] qs rs ∧ KeepTy wr w' := by
  obtain ⟨v1, v2, v3, t1, h0, h1, h2, h3, h4⟩ := h.2.2.2.2
  refine (clear_call wr _ g v1 ps t1).mono fun e w' ⟨he, ht, k⟩ => ⟨he, ?_, KeepTy.of t1 k⟩
  exact ⟨k.below h.1 t1.2.1 (fun b hb => (t1.row b hb).1), h.2.1, h.2.2.1, h.2.2.2.1, _, v2, v3, ht, h0.other t1 k h.2.1.symm h2, h1.other t1 k h.2.2.1.symm h3, ne_nil _, ne_nil _, h4⟩
theorem trio_get (w wr : World) (g gu gv : Nat) (ps qs rs : List (Int × Int)) (page : Int) (h : Trio w wr g gu gv ps qs rs) :
    Calls Try.prog 15 #[.pointer (some ⟨g, 0, none⟩), .int .u32 page] wr fun e w' => e = .returned (.tuple #[.int .u32 (entP page ps), .bool (decide (posP page ps < ps.length))]) ∧ Trio w w' g gu gv ps qs rs ∧ Below wr.heap.size wr w' := by
  obtain ⟨v1, v2, v3, t1, _⟩ := h.2.2.2.2
  exact (get_call wr _ g v1 ps page t1).mono fun e w' ⟨he, hb⟩ => ⟨he, h.then hb, hb⟩
theorem trio_pages (w wr : World) (g gu gv : Nat) (ps qs rs : List (Int × Int)) (h : Trio w wr g gu gv ps qs rs) :
    Calls Try.prog 21 #[.pointer (some ⟨g, 0, none⟩)] wr fun e w' => ∃ A c, e = .returned (.slice A ps.length c) ∧ w'.ownsRow wr.heap.size 22 1 (.slice A ps.length c) ps.length (nums .u32 (ps.map Prod.fst)) ∧ Trio w w' g gu gv ps qs rs ∧ Below wr.heap.size wr w' := by
  obtain ⟨v1, v2, v3, t1, _⟩ := h.2.2.2.2
  exact (pages_call wr _ g v1 ps t1).mono fun e w' ⟨A, c, he, ho, hb⟩ => ⟨A, c, he, ho, h.then hb, hb⟩
theorem trio_len {w wr : World} {g gu gv : Nat} {ps qs rs : List (Int × Int)} (h : Trio w wr g gu gv ps qs rs) : ps.length ≤ 8 := by
  obtain ⟨v1, v2, v3, t1, _⟩ := h.2.2.2.2
  exact t1.2.2.2
end Go.Proofs.Ytocjadgakalbdaa.TlbWalk
