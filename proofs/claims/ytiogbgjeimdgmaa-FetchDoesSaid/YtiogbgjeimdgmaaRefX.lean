/- Both queues beside both MMUs. -/
import Derived.Test.YtiogbgjeimdgmaaRefW
namespace Go.Proofs.Ytiogbgjeimdgmaa.RefWalk
open Go.RowKit Go.Proofs.Ytiogbgjeimdgmaa.Aid Go.Proofs.YtiogbgjeimdgmaaW.PrintWords Go.Proofs.YtiogbgjeimdgmaaW.PrintMore
open Go.Proofs.Ytiogbgjeimdgmaa.MmuWalk (Chg R32 Flt fltV noF flt infoF infoB Tabs row_ty own_keep two_ty box1 row_then foot mine MmuAt MStep NextRow mTy qfoot cycF cycF_good cycF_pc goodF qCells peekF peekF_good peekF_zero findF findF_fit findF_r' foot_ge1 Pcs szI szI_le storeP storeL byL byL_length byL_bytes mput_call mset_call)
open Go.Proofs.Ytiogbgjeimdgmaa.RamWalk (Bytes leN own_cell putL putL_length putL_bytes put_i put_bus_i)
open Go.Proofs.Ytiogbgjeimdgmaa.TlbWalk (RefAt own_then own_val own_some dropP)
set_option linter.unusedVariables false
set_option linter.unusedSimpArgs false
structure YU (w0 W : World) (L R : LocR) (v vp ve : Value) (T : Tabs) (ps : List (Int × Int)) (l : List Int) (T' : Tabs) (qs : List (Int × Int)) (k : List Int) (q : Nat) (vb : Value) (pc : Int) (u : Bool) (bs : List Int) (f : Flt) (y : Nat) (yb : Value) (pc2 : Int) (u2 : Bool) (bs2 : List Int) (f2 : Flt) : Prop where
  fu : FU w0 w0 (fun _ => False) W L R v vp ve T ps l T' false qs k q vb pc u bs f
  ya : YAt W w0.heap.size y R.m pc2 u2 yb bs2 f2
  dy : ∀ i, qfoot y yb i → ¬ both L R v vp ve i ∧ ¬ qfoot q vb i
/-- What the loop of FetchDoes keeps. -/
def YS (w0 W : World) (L R : LocR) (T : Tabs) (ps : List (Int × Int)) (l : List Int) (T' : Tabs) (qs : List (Int × Int)) (k : List Int) (q : Nat) (pc : Int) (u : Bool) (bs : List Int) (f : Flt) (y : Nat) (pc2 : Int) (u2 : Bool) (bs2 : List Int) (f2 : Flt) : Prop :=
  ∃ v vp ve vb yb, YU w0 W L R v vp ve T ps l T' qs k q vb pc u bs f y yb pc2 u2 bs2 f2
/-- Boxes of other kinds stay. -/
def KeepB (W W' : World) : Prop := ∀ (g : Nat) (cs : Array Value) (ty : TypeId) (fr : Nat × Nat), W.heap[g]? = some (.cells cs ty fr) → oTy ty → ty ≠ 109 → ty ≠ 83 → W'.heap[g]? = some (.cells cs ty fr)
section
variable {w0 W W' : World} {L R : LocR} {v vp ve : Value} {T T' : Tabs} {ps qs : List (Int × Int)} {l k : List Int} {q y : Nat} {vb yb : Value} {pc pc2 : Int} {u u2 : Bool} {bs bs2 : List Int} {f f2 : Flt}
theorem YU.then (h : YU w0 W L R v vp ve T ps l T' qs k q vb pc u bs f y yb pc2 u2 bs2 f2) (b : Below W.heap.size W W') : YU w0 W' L R v vp ve T ps l T' qs k q vb pc u bs f y yb pc2 u2 bs2 f2 :=
  ⟨h.fu.then b, h.ya.then b, h.dy⟩
theorem YS.then (h : YS w0 W L R T ps l T' qs k q pc u bs f y pc2 u2 bs2 f2) (b : Below W.heap.size W W') : YS w0 W' L R T ps l T' qs k q pc u bs f y pc2 u2 bs2 f2 := by
  obtain ⟨v, vp, ve, vb, yb, h⟩ := h
  exact ⟨_, _, _, _, _, h.then b⟩
theorem YS.below (h : YS w0 W L R T ps l T' qs k q pc u bs f y pc2 u2 bs2 f2) : Below w0.heap.size w0 W := by
  obtain ⟨v, vp, ve, vb, yb, h⟩ := h
  exact h.fu.du.below
theorem YU.ylt (h : YU w0 W L R v vp ve T ps l T' qs k q vb pc u bs f y yb pc2 u2 bs2 f2) (i : Nat) (hi : qfoot y yb i) : i < W.heap.size := by
  rcases hi with rfl | hi
  · exact h.ya.lt
  · exact (h.ya.rowlt i hi.symm).2.1
theorem YU.frD (h : YU w0 W L R v vp ve T ps l T' qs k q vb pc u bs f y yb pc2 u2 bs2 f2) : DU w0 W (fun i => qfoot q vb i ∨ qfoot y yb i) W L R v vp ve T ps l T' false qs k :=
  ⟨h.fu.du.below, h.fu.du.m, h.fu.du.r, h.fu.du.dis, fun i hi => by
    rcases hi with hi | hi
    · exact ⟨h.fu.lt i (.inr hi), rfl, fun g => h.fu.dq i hi (.inl g), fun g => h.fu.dq i hi (.inr g)⟩
    · exact ⟨h.ylt i hi, rfl, fun g => (h.dy i hi).1 (.inl g), fun g => (h.dy i hi).1 (.inr g)⟩⟩
theorem YU.ofD {v' vp' ve' : Value} {T1 T2 : Tabs} {ps1 qs1 : List (Int × Int)} {l1 k1 : List Int} (h : YU w0 W L R v vp ve T ps l T' qs k q vb pc u bs f y yb pc2 u2 bs2 f2) (d : DU w0 W (fun i => qfoot q vb i ∨ qfoot y yb i) W' L R v' vp' ve' T1 ps1 l1 T2 false qs1 k1) :
    YU w0 W' L R v' vp' ve' T1 ps1 l1 T2 qs1 k1 q vb pc u bs f y yb pc2 u2 bs2 f2 :=
  ⟨⟨⟨d.below, d.m, d.r, d.dis, fun i hi => hi.elim⟩, h.fu.qa.keep (fun i hi => (d.fr i (.inl hi)).2.1), fun i hi g => g.elim (d.fr i (.inl hi)).2.2.1 (d.fr i (.inl hi)).2.2.2, fun i hi => hi.elim⟩,
    h.ya.keep (fun i hi => (d.fr i (.inr hi)).2.1), fun i hi => ⟨fun g => g.elim (d.fr i (.inr hi)).2.2.1 (d.fr i (.inr hi)).2.2.2, (h.dy i hi).2⟩⟩
theorem YU.stepM {T1 : Tabs} {ps1 : List (Int × Int)} {l1 : List Int} (h : YU w0 W L R v vp ve T ps l T' qs k q vb pc u bs f y yb pc2 u2 bs2 f2) (s : MStep W W' w0.heap.size L v T1 ps1 l1) : YS w0 W' L R T1 ps1 l1 T' qs k q pc u bs f y pc2 u2 bs2 f2 := by
  obtain ⟨v', d⟩ := h.frD.stepM s
  exact ⟨_, _, _, _, _, h.ofD d⟩
theorem YU.stepR {T1 : Tabs} {qs1 : List (Int × Int)} {k1 : List Int} (h : YU w0 W L R v vp ve T ps l T' qs k q vb pc u bs f y yb pc2 u2 bs2 f2) (s : RStep W W' w0.heap.size R vp ve T1 false qs1 k1) : YS w0 W' L R T ps l T1 qs1 k1 q pc u bs f y pc2 u2 bs2 f2 := by
  obtain ⟨vp', ve', d, _, _⟩ := h.frD.stepR s
  exact ⟨_, _, _, _, _, h.ofD d⟩
/-- The second queue goes on. -/
theorem YU.stepY {yb' : Value} {pc' : Int} {u' : Bool} {bs' : List Int} {f' : Flt} (h : YU w0 W L R v vp ve T ps l T' qs k q vb pc u bs f y yb pc2 u2 bs2 f2) (a : YAt W' w0.heap.size y R.m pc' u' yb' bs' f') (n : NextRow W yb yb') (c : Chg (qfoot y yb) W W') :
    YS w0 W' L R T ps l T' qs k q pc u bs f y pc' u' bs' f' := by
  have hk : ∀ i, both L R v vp ve i ∨ qfoot q vb i → W'.heap[i]? = W.heap[i]? := fun i hi => c.block i (h.fu.lt i hi) (fun g => by
    rcases hi with hi | hi
    · exact (h.dy i g).1 hi
    · exact (h.dy i g).2 hi)
  refine ⟨v, vp, ve, vb, yb', ⟨⟨c.below h.fu.du.below (fun i g => ?_), h.fu.du.m.keep (fun i hi => hk i (.inl (.inl hi))), h.fu.du.r.keep (fun i hi => hk i (.inl (.inr hi))), h.fu.du.dis, fun i hi => hi.elim⟩, h.fu.qa.keep (fun i hi => hk i (.inr hi)), h.fu.dq, fun i hi => hi.elim⟩, a, fun i hi => ?_⟩
  · exact yqfoot_ge h.ya i g
  · have old : ∀ i, qfoot y yb i ∨ W.heap.size ≤ i → ¬ both L R v vp ve i ∧ ¬ qfoot q vb i := fun i g => by
      rcases g with g | g
      · exact h.dy i g
      · exact ⟨fun e => by have := h.fu.lt i (.inl e); omega, fun e => by have := h.fu.lt i (.inr e); omega⟩
    rcases hi with rfl | hi
    · exact h.dy i (.inl rfl)
    · rcases n i hi.symm with e | e
      · exact old i (.inl (.inr e.symm))
      · exact old i (.inr e)
/-- Boxes of other kinds, behind a step. -/
theorem YU.keepF {P : Prop} (h : YU w0 W L R v vp ve T ps l T' qs k q vb pc u bs f y yb pc2 u2 bs2 f2) {S : Nat → Prop} (c : Chg S W W') (hS : ∀ i, S i → both L R v vp ve i ∨ qfoot q vb i ∨ qfoot y yb i) : KeepB W W' := fun g cs ty fr hg ho h1 h2 => by
  have hlt := (Array.getElem?_eq_some_iff.1 hg).1
  refine (c.block g hlt (fun e => ?_)).trans hg
  rcases hS g e with (e | e) | e | e
  · exact h.fu.du.m.ne_ty hg ho.1 g e rfl
  · exact h.fu.du.r.ne_ty hg ho.2 g e rfl
  · rcases e with rfl | e
    · have := h.fu.qa.blk
      rw [this] at hg
      simp only [Option.some.injEq, Obj.cells.injEq] at hg
      exact h1 hg.2.1.symm
    · obtain ⟨cur, hc⟩ := row_ty h.fu.qa.row g e.symm
      rw [hc] at hg
      simp only [Option.some.injEq, Obj.cells.injEq] at hg
      exact ho.1 (by rw [← hg.2.1]; unfold mTy; decide)
  · rcases e with rfl | e
    · have := h.ya.blk
      rw [this] at hg
      simp only [Option.some.injEq, Obj.cells.injEq] at hg
      exact h2 hg.2.1.symm
    · obtain ⟨cur, hc⟩ := row_ty h.ya.row g e.symm
      rw [hc] at hg
      simp only [Option.some.injEq, Obj.cells.injEq] at hg
      exact ho.1 (by rw [← hg.2.1]; unfold mTy; decide)
end
end Go.Proofs.Ytiogbgjeimdgmaa.RefWalk
