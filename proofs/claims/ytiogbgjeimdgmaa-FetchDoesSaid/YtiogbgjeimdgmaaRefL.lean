/- The MMU and the document's MMU side by side. -/
import Derived.Test.YtiogbgjeimdgmaaRefK
namespace Go.Proofs.Ytiogbgjeimdgmaa.RefWalk
open Go.RowKit Go.Proofs.Ytiogbgjeimdgmaa.Aid Go.Proofs.YtiogbgjeimdgmaaW.PrintWords Go.Proofs.YtiogbgjeimdgmaaW.PrintLast Go.Proofs.YtiogbgjeimdgmaaW.PrintMore
open Go.Proofs.Ytiogbgjeimdgmaa.MmuWalk (Chg R32 Flt Tabs row_ty own_keep two_ty foot mine MmuAt MStep NextRow foot_of foot_ge1 mine_lt' mTy box_ty)
open Go.Proofs.Ytiogbgjeimdgmaa.MmuWalk (row_then)
open Go.Proofs.Ytiogbgjeimdgmaa.RamWalk (Bytes leN)
open Go.Proofs.Ytiogbgjeimdgmaa.TlbWalk (RefAt own_then own_val own_some)
set_option linter.unusedVariables false
set_option linter.unusedSimpArgs false
theorem mine_of {W : World} {L : LocR} {v v' : Value} (h : NextRow W v v') (i : Nat) (hi : i < W.heap.size) (f : mine L v' i) : mine L v i := by
  rcases f with f | f
  · exact .inl (foot_of h i hi f)
  · exact .inr f
theorem rmine_ge {W : World} {base : Nat} {L : LocR} {vp ve : Value} {T : Tabs} {pl : Bool} {ps : List (Int × Int)} {l : List Int} (h : RmAt W base L vp ve T pl ps l) (i : Nat) (k : rmine L vp ve i) : base ≤ i := by
  obtain ⟨_, _, _, _, h'⟩ := h.types i k
  exact h'
structure DU (w0 WF : World) (F : Nat → Prop) (W : World) (L R : LocR) (v vp ve : Value) (T : Tabs) (ps : List (Int × Int)) (l : List Int) (T' : Tabs) (pl : Bool) (qs : List (Int × Int)) (k : List Int) : Prop where
  below : Below w0.heap.size w0 W
  m : MmuAt W w0.heap.size L v T ps l
  r : RmAt W w0.heap.size R vp ve T' pl qs k
  dis : ∀ i, mine L v i → ¬ rmine R vp ve i
  fr : ∀ i, F i → i < WF.heap.size ∧ W.heap[i]? = WF.heap[i]? ∧ ¬ mine L v i ∧ ¬ rmine R vp ve i
theorem DU.lt {w0 WF W : World} {F : Nat → Prop} {L R : LocR} {v vp ve : Value} {T : Tabs} {ps : List (Int × Int)} {l : List Int} {T' : Tabs} {pl : Bool} {qs : List (Int × Int)} {k : List Int} (h : DU w0 WF F W L R v vp ve T ps l T' pl qs k) {i : Nat} (hi : F i) : i < W.heap.size := by
  obtain ⟨a, b, _⟩ := h.fr i hi
  rw [Array.getElem?_eq_getElem a] at b
  exact (Array.getElem?_eq_some_iff.1 b).1
theorem DU.then {w0 WF W W' : World} {F : Nat → Prop} {L R : LocR} {v vp ve : Value} {T : Tabs} {ps : List (Int × Int)} {l : List Int} {T' : Tabs} {pl : Bool} {qs : List (Int × Int)} {k : List Int} (h : DU w0 WF F W L R v vp ve T ps l T' pl qs k) (b : Below W.heap.size W W') : DU w0 WF F W' L R v vp ve T ps l T' pl qs k :=
  ⟨below_step h.below b, h.m.then b, h.r.then b, h.dis, fun i hi => ⟨(h.fr i hi).1, (b.block i (h.lt hi)).trans (h.fr i hi).2.1, (h.fr i hi).2.2⟩⟩
theorem DU.stepM {w0 WF W W' : World} {F : Nat → Prop} {L R : LocR} {v vp ve : Value} {T T2 : Tabs} {ps ps2 : List (Int × Int)} {l l2 : List Int} {T' : Tabs} {pl : Bool} {qs : List (Int × Int)} {k : List Int} (h : DU w0 WF F W L R v vp ve T ps l T' pl qs k) (s : MStep W W' w0.heap.size L v T2 ps2 l2) : ∃ v', DU w0 WF F W' L R v' vp ve T2 ps2 l2 T' pl qs k := by
  obtain ⟨⟨v', m', n⟩, c⟩ := s
  refine ⟨v', c.below h.below (fun i f => foot_ge1 h.m i f), m', h.r.keep (fun i q => c.block i (rmine_lt h.r i q) (fun f => h.dis i (.inl f) q)), fun i f q => h.dis i (mine_of n i (rmine_lt h.r i q) f) q, fun i hi => ?_⟩
  obtain ⟨a1, a2, a3, a4⟩ := h.fr i hi
  exact ⟨a1, (c.block i (h.lt hi) (fun f => a3 (.inl f))).trans a2, fun f => a3 (mine_of n i (h.lt hi) f), a4⟩
theorem DU.stepR {w0 WF W W' : World} {F : Nat → Prop} {L R : LocR} {v vp ve : Value} {T : Tabs} {ps : List (Int × Int)} {l : List Int} {T' T2 : Tabs} {pl : Bool} {qs qs2 : List (Int × Int)} {k k2 : List Int} (h : DU w0 WF F W L R v vp ve T ps l T' pl qs k) (s : RStep W W' w0.heap.size R vp ve T2 pl qs2 k2) : ∃ vp' ve', DU w0 WF F W' L R v vp' ve' T ps l T2 pl qs2 k2 ∧ Nx W vp ve vp' ∧ Nx W vp ve ve' := by
  obtain ⟨⟨vp', ve', r', n1, n2⟩, c⟩ := s
  refine ⟨vp', ve', ⟨c.below h.below (fun i f => rmine_ge h.r i (.inl f)), h.m.keep (fun i q => c.block i (mine_lt' h.m i q) (fun f => h.dis i q (.inl f))), r', fun i f q => h.dis i f (rmine_of n1 n2 i (mine_lt' h.m i f) q), fun i hi => ?_⟩, n1, n2⟩
  obtain ⟨a1, a2, a3, a4⟩ := h.fr i hi
  exact ⟨a1, (c.block i (h.lt hi) (fun f => a4 (.inl f))).trans a2, a3, fun f => a4 (rmine_of n1 n2 i (h.lt hi) f)⟩
/-- Boxes of other kinds stay. -/
def oTy (ty : TypeId) : Prop := ¬ mTy ty ∧ ¬ rTy ty
/-- What was there when the two were made lies apart from both. -/
theorem DU.apart {w0 WF W : World} {F : Nat → Prop} {L R : LocR} {v vp ve : Value} {T : Tabs} {ps : List (Int × Int)} {l : List Int} {T' : Tabs} {pl : Bool} {qs : List (Int × Int)} {k : List Int} {A : Option Addr} {n : Nat} {xs : List Int} (h : DU w0 WF F W L R v vp ve T ps l T' pl qs k) (hr : ReadsInt w0 .u8 A n xs) : ∀ a, A = some a → 0 < n → ¬ mine L v a.block ∧ ¬ rmine R vp ve a.block := fun a ha hpos => by
  obtain ⟨ad, he, hc⟩ := hr.2.2 hpos
  have hbk := World.block_lt_of_cell? w0 _ (hc 0 hpos)
  rw [he] at ha
  simp only [Option.some.injEq] at ha
  subst ha
  have hz : (ad.add 0).block = ad.block := rfl
  rw [hz] at hbk
  refine ⟨fun f => ?_, fun f => ?_⟩
  · rcases f with f | f
    · have := foot_ge1 h.m _ f; omega
    · have := h.m.ram.2.1; omega
  · have := rmine_ge h.r _ f; omega
/-- A box is filled. -/
def fill3 (W : World) (g : Nat) (x y z : Value) : World := ((W.setCell ⟨g, 0, none⟩ x).setCell ⟨g, 1, none⟩ y).setCell ⟨g, 2, none⟩ z
theorem fill3_other (W : World) (g : Nat) (x y z : Value) (i : Nat) (hi : i ≠ g) : (fill3 W g x y z).heap[i]? = W.heap[i]? :=
  (Below.heap_setCell _ ⟨g, 2, none⟩ z i hi).trans ((Below.heap_setCell _ ⟨g, 1, none⟩ y i hi).trans (Below.heap_setCell W ⟨g, 0, none⟩ x i hi))
theorem DU.fill {w0 WF W : World} {F : Nat → Prop} {L R : LocR} {v vp ve : Value} {T : Tabs} {ps : List (Int × Int)} {l : List Int} {T' : Tabs} {pl : Bool} {qs : List (Int × Int)} {k : List Int} {g : Nat} {cs : Array Value} {ty : TypeId} {fr : Nat × Nat} (h : DU w0 WF F W L R v vp ve T ps l T' pl qs k) (hg : W.heap[g]? = some (.cells cs ty fr)) (ht : oTy ty) (hb : w0.heap.size ≤ g) (hF : ¬ F g) (x y z : Value) : DU w0 WF F (fill3 W g x y z) L R v vp ve T ps l T' pl qs k :=
  ⟨⟨h.below.os, h.below.tape, h.below.output, by simpa [fill3, World.setCell] using h.below.size, fun i hi => (fill3_other W g x y z i (by omega)).trans (h.below.block i hi)⟩,
    h.m.keep (fun i q => fill3_other W g x y z i (h.m.ne_ty hg ht.1 i q)), h.r.keep (fun i q => fill3_other W g x y z i (h.r.ne_ty hg ht.2 i q)), h.dis,
    fun i hi => ⟨(h.fr i hi).1, (fill3_other W g x y z i (fun e => hF (e ▸ hi))).trans (h.fr i hi).2.1, (h.fr i hi).2.2⟩⟩
theorem rm_put1 {W : World} {base : Nat} {L : LocR} {vp ve : Value} {T T' : Tabs} {pl : Bool} {ps : List (Int × Int)} {l : List Int} (h : RmAt W base L vp ve T pl ps l) (hT : T'.ok) (j : Nat) (x : Value)
    (hb : (W.setCell ⟨L.m, j, none⟩ x).heap[L.m]? = some (.cells (rmCells L.r L.t T' pl) 42 (0, 0))) : RmAt (W.setCell ⟨L.m, j, none⟩ x) base L vp ve T' pl ps l ∧ Chg (rfoot L vp ve) W (W.setCell ⟨L.m, j, none⟩ x) := by
  obtain ⟨a1, a2, a3, a4, a5, a6⟩ := h.ne
  have e : ∀ i, i ≠ L.m → (W.setCell ⟨L.m, j, none⟩ x).heap[i]? = W.heap[i]? := fun i hi => Below.heap_setCell W ⟨L.m, j, none⟩ _ i hi
  exact ⟨⟨hb, h.ge, ⟨(e _ (fun c => a1 c.symm)).trans h.ram.1, h.ram.2.1, own_keep h.ram.2.2.1 (fun i hi => e i (fun c => a2 (by simp only [Value.ownBlock, Option.some.injEq] at hi; omega))), h.ram.2.2.2⟩,
    ⟨(e _ (fun c => a3 c.symm)).trans h.tlb.1, h.tlb.2.1, own_keep h.tlb.op (fun i hi => e i (h.ne_rows i (.inl hi)).1), own_keep h.tlb.oe (fun i hi => e i (h.ne_rows i (.inr hi)).1), h.tlb.2.2.2.2⟩, h.by_, hT, h.ents, h.nd⟩, ⟨rfl, rfl, rfl, by simp [World.setCell], fun i hi hf => e i (fun c => hf (.inl c))⟩⟩
def put5 (W : World) (g : Nat) (T' : Tabs) : World := ((((W.setCell ⟨g, 2, none⟩ (.int .u32 T'.p0b)).setCell ⟨g, 3, none⟩ (.int .u32 T'.p0l)).setCell ⟨g, 4, none⟩ (.int .u32 T'.sb)).setCell ⟨g, 5, none⟩ (.int .u32 T'.sl)).setCell ⟨g, 6, none⟩ (.int .u32 T'.men)
theorem rm_put5 {W : World} {base : Nat} {L : LocR} {vp ve : Value} {T : Tabs} {pl : Bool} {ps : List (Int × Int)} {l : List Int} (h : RmAt W base L vp ve T pl ps l) (T' : Tabs) (hT : T'.ok) :
    RmAt (put5 W L.m T') base L vp ve T' pl ps l ∧ Chg (rfoot L vp ve) W (put5 W L.m T') := by
  unfold put5
  obtain ⟨t1, t2, t3, t4, t5⟩ := h.ok
  obtain ⟨s1, s2, s3, s4, s5⟩ := hT
  obtain ⟨m1, k1⟩ := rm_put1 h (T' := ⟨T'.p0b, T.p0l, T.sb, T.sl, T.men⟩) ⟨s1, t2, t3, t4, t5⟩ 2 (.int .u32 T'.p0b) (blk_put h.blk 2 _ rfl)
  generalize W.setCell ⟨L.m, 2, none⟩ (.int .u32 T'.p0b) = W1 at *
  obtain ⟨m2, k2⟩ := rm_put1 m1 (T' := ⟨T'.p0b, T'.p0l, T.sb, T.sl, T.men⟩) ⟨s1, s2, t3, t4, t5⟩ 3 (.int .u32 T'.p0l) (blk_put m1.blk 3 _ rfl)
  generalize W1.setCell ⟨L.m, 3, none⟩ (.int .u32 T'.p0l) = W2 at *
  obtain ⟨m3, k3⟩ := rm_put1 m2 (T' := ⟨T'.p0b, T'.p0l, T'.sb, T.sl, T.men⟩) ⟨s1, s2, s3, t4, t5⟩ 4 (.int .u32 T'.sb) (blk_put m2.blk 4 _ rfl)
  generalize W2.setCell ⟨L.m, 4, none⟩ (.int .u32 T'.sb) = W3 at *
  obtain ⟨m4, k4⟩ := rm_put1 m3 (T' := ⟨T'.p0b, T'.p0l, T'.sb, T'.sl, T.men⟩) ⟨s1, s2, s3, s4, t5⟩ 5 (.int .u32 T'.sl) (blk_put m3.blk 5 _ rfl)
  generalize W3.setCell ⟨L.m, 5, none⟩ (.int .u32 T'.sl) = W4 at *
  obtain ⟨m5, k5⟩ := rm_put1 m4 (T' := T') ⟨s1, s2, s3, s4, s5⟩ 6 (.int .u32 T'.men) (blk_put m4.blk 6 _ rfl)
  generalize W4.setCell ⟨L.m, 6, none⟩ (.int .u32 T'.men) = W5 at *
  have f : ∀ {A : World} (i : Nat), i < A.heap.size → rfoot L vp ve i → rfoot L vp ve i := fun i _ h => h
  exact ⟨m5, (((k1.trans k2 (f (A := W))).trans k3 (f (A := W))).trans k4 (f (A := W))).trans k5 (f (A := W))⟩
theorem rm_put5_step {W : World} {base : Nat} {L : LocR} {vp ve : Value} {T : Tabs} {pl : Bool} {ps : List (Int × Int)} {l : List Int} (h : RmAt W base L vp ve T pl ps l) (T' : Tabs) (hT : T'.ok) : RStep W (put5 W L.m T') base L vp ve T' pl ps l :=
  ⟨⟨vp, ve, (rm_put5 h T' hT).1, Nx.p _ _ _, Nx.e _ _ _⟩, (rm_put5 h T' hT).2⟩
/-- One call, as a value; its box. -/
structure Cal where
  kind : Int
  va : Int
  x : Int
  n : Int
  u : Bool
  wr : Bool
  A : Option Addr
  nb : Nat
  cb : Nat
  T : Tabs
def Cal.cells (c : Cal) : Array Value := #[.int .i64 c.kind, .int .u32 c.va, .int .u32 c.x, .int .i64 c.n, .bool c.u, .bool c.wr, .slice c.A c.nb c.cb, .int .u32 c.T.p0b, .int .u32 c.T.p0l, .int .u32 c.T.sb, .int .u32 c.T.sl, .int .u32 c.T.men]
theorem ex_list05 {β : Type} (d : β) (p : Nat → β → Prop) : ∀ n : Nat, (∀ i, i < n → ∃ b, p i b) → ∃ bs : List β, bs.length = n ∧ ∀ i, i < n → p i (bs.getD i d)
  | 0, _ => ⟨[], rfl, fun i h => by omega⟩
  | n + 1, h => by
    obtain ⟨bs, hl, hp⟩ := ex_list05 d p n (fun i hi => h i (by omega))
    obtain ⟨b, hb⟩ := h n (by omega)
    refine ⟨bs ++ [b], by simp [hl], fun i hi => ?_⟩
    by_cases hin : i < n
    · have := hp i hin
      rw [List.getD_eq_getElem?_getD, List.getElem?_append_left (by omega), ← List.getD_eq_getElem?_getD]
      exact this
    · have hie : i = n := by omega
      subst hie
      rw [List.getD_eq_getElem?_getD, List.getElem?_append_right (by omega), hl]
      simpa using hb
theorem i64_wf {x : Int} (h : (Lit.int .i64 x).wf = true) : -9223372036854775808 ≤ x ∧ x ≤ 9223372036854775807 := by
  simp [Lit.wf] at h
  have e1 : IntKind.i64.min = -9223372036854775808 := by decide
  have e2 : IntKind.i64.max = 9223372036854775807 := by decide
  omega
end Go.Proofs.Ytiogbgjeimdgmaa.RefWalk
