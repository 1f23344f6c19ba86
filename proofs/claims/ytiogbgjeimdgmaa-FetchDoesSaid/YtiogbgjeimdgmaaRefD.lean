/- The document's MMU (camshaftref05) in memory; New, Entry. -/
import Derived.Test.YtiogbgjeimdgmaaRefC
namespace Go.Proofs.Ytiogbgjeimdgmaa.RefWalk
open Go.RowKit Go.Proofs.Ytiogbgjeimdgmaa.Aid Go.Proofs.YtiogbgjeimdgmaaW.PrintWords Go.Proofs.YtiogbgjeimdgmaaW.PrintLast Go.Proofs.YtiogbgjeimdgmaaW.PrintMore
open Go.Proofs.Ytiogbgjeimdgmaa.MmuWalk (Chg R32 protE isE wrE placeE mayE Flt fltV noF flt infoF leN_snoc szI Loc Tabs noT noT_ok row_ty own_keep two_ty findF findP entryF entryP lookF memF offE atE lenT baseT pageE)
open Go.Proofs.Ytiogbgjeimdgmaa.RamWalk (Bytes leN leN_bounds putL putL_length putL_bytes grown_put grown_drewN grown_refl grown_drew info5)
open Go.Proofs.Ytiogbgjeimdgmaa.TlbWalk (RefAt putP dropP posP entP nil2 own_then)
attribute [local go_sem] max2_int min2_int max_two min_two max_three min_three max_four min_four   -- for this text's walks alone
set_option linter.unusedVariables false
set_option linter.unusedSimpArgs false
abbrev LocR := Go.Proofs.Ytiogbgjeimdgmaa.MmuWalk.Loc
def rmCells (gr gt : Nat) (T : Tabs) (pl : Bool) : Array Value := #[.pointer (some ⟨gr, 0, none⟩), .pointer (some ⟨gt, 0, none⟩), .int .u32 T.p0b, .int .u32 T.p0l, .int .u32 T.sb, .int .u32 T.sl, .int .u32 T.men, .bool pl]
structure RmAt (W : World) (base : Nat) (L : LocR) (vp ve : Value) (T : Tabs) (pl : Bool) (ps : List (Int × Int)) (l : List Int) : Prop where
  blk : W.heap[L.m]? = some (.cells (rmCells L.r L.t T pl) 42 (0, 0))
  ge : base ≤ L.m
  ram : RRamAt W base L.r (.slice (some ⟨L.b, 0, none⟩) l.length L.c) l
  tlb : RefAt W base L.t vp ve ps
  by_ : Bytes l
  ok : T.ok
  ents : ∀ p ∈ ps, (0 ≤ p.1 ∧ p.1 < 8388608) ∧ 0 ≤ p.2 ∧ p.2 < 4294967296
  nd : (ps.map Prod.fst).Nodup
theorem RmAt.lt {W : World} {base : Nat} {L : LocR} {vp ve : Value} {T : Tabs} {pl : Bool} {ps : List (Int × Int)} {l : List Int} (h : RmAt W base L vp ve T pl ps l) : L.m < W.heap.size := (Array.getElem?_eq_some_iff.1 h.blk).1
theorem RmAt.then {W W' : World} {base : Nat} {L : LocR} {vp ve : Value} {T : Tabs} {pl : Bool} {ps : List (Int × Int)} {l : List Int} (h : RmAt W base L vp ve T pl ps l) (k : Below W.heap.size W W') : RmAt W' base L vp ve T pl ps l :=
  ⟨(k.block L.m h.lt).trans h.blk, h.ge, h.ram.then k, h.tlb.then k, h.by_, h.ok, h.ents, h.nd⟩
theorem RmAt.cell {W : World} {base : Nat} {L : LocR} {vp ve : Value} {T : Tabs} {pl : Bool} {ps : List (Int × Int)} {l : List Int} (h : RmAt W base L vp ve T pl ps l) (j : Nat) : W.cell? ⟨L.m, j, none⟩ = (rmCells L.r L.t T pl)[j]? := cell_of_row W L.m j _ _ _ h.blk
theorem RmAt.free {W : World} {base : Nat} {L : LocR} {vp ve : Value} {T : Tabs} {pl : Bool} {ps : List (Int × Int)} {l : List Int} (h : RmAt W base L vp ve T pl ps l) (j : Nat) : W.frozen? ⟨L.m, j, none⟩ = false := frozen_of_row W L.m j _ _ h.blk
/-- The blocks that a call may turn; all of them. -/
def rfoot (L : LocR) (vp ve : Value) (i : Nat) : Prop := i = L.m ∨ i = L.t ∨ i = L.b ∨ vp.ownBlock = some i ∨ ve.ownBlock = some i
def rmine (L : LocR) (vp ve : Value) (i : Nat) : Prop := rfoot L vp ve i ∨ i = L.r
def rTy (ty : TypeId) : Prop := ty = 42 ∨ ty = 51 ∨ ty = 5 ∨ ty = 94 ∨ ty = 23
theorem RmAt.types {W : World} {base : Nat} {L : LocR} {vp ve : Value} {T : Tabs} {pl : Bool} {ps : List (Int × Int)} {l : List Int} (h : RmAt W base L vp ve T pl ps l) (i : Nat) (k : rmine L vp ve i) : ∃ cs ty, W.heap[i]? = some (.cells cs ty (0, 0)) ∧ rTy ty ∧ base ≤ i := by
  rcases k with (k | k | k | k | k) | k
  · exact ⟨_, _, by rw [k]; exact h.blk, .inl rfl, by rw [k]; exact h.ge⟩
  · exact ⟨_, _, by rw [k]; exact h.tlb.1, .inr (.inr (.inr (.inl rfl))), by rw [k]; exact h.tlb.2.1⟩
  · obtain ⟨cur, hb, _, _, _, _, hg⟩ := h.ram.row
    exact ⟨_, _, by rw [k]; exact hb, .inr (.inr (.inl rfl)), by rw [k]; exact hg⟩
  · obtain ⟨cur, hc⟩ := row_ty h.tlb.op i k
    exact ⟨_, _, hc, .inr (.inr (.inr (.inr rfl))), own_base h.tlb.op i k⟩
  · obtain ⟨cur, hc⟩ := row_ty h.tlb.oe i k
    exact ⟨_, _, hc, .inr (.inr (.inr (.inr rfl))), own_base h.tlb.oe i k⟩
  · exact ⟨_, _, by rw [k]; exact h.ram.1, .inr (.inl rfl), by rw [k]; exact h.ram.2.1⟩
theorem rmine_lt {W : World} {base : Nat} {L : LocR} {vp ve : Value} {T : Tabs} {pl : Bool} {ps : List (Int × Int)} {l : List Int} (h : RmAt W base L vp ve T pl ps l) (i : Nat) (k : rmine L vp ve i) : i < W.heap.size := by
  obtain ⟨cs, ty, h', _⟩ := h.types i k
  exact (Array.getElem?_eq_some_iff.1 h').1
theorem RmAt.ne_ty {W : World} {base : Nat} {L : LocR} {vp ve : Value} {T : Tabs} {pl : Bool} {ps : List (Int × Int)} {l : List Int} (h : RmAt W base L vp ve T pl ps l) {g : Nat} {cs : Array Value} {ty : TypeId} {fr : Nat × Nat} (hg : W.heap[g]? = some (.cells cs ty fr)) (ht : ¬ rTy ty) (i : Nat) (k : rmine L vp ve i) : i ≠ g := by
  rintro rfl
  obtain ⟨cs', ty', h', m, _⟩ := h.types i k
  rw [hg] at h'
  simp only [Option.some.injEq, Obj.cells.injEq] at h'
  exact ht (h'.2.1 ▸ m)
theorem RmAt.keep {W W' : World} {base : Nat} {L : LocR} {vp ve : Value} {T : Tabs} {pl : Bool} {ps : List (Int × Int)} {l : List Int} (h : RmAt W base L vp ve T pl ps l) (k : ∀ i, rmine L vp ve i → W'.heap[i]? = W.heap[i]?) : RmAt W' base L vp ve T pl ps l :=
  ⟨(k _ (.inl (.inl rfl))).trans h.blk, h.ge,
    ⟨(k _ (.inr rfl)).trans h.ram.1, h.ram.2.1, own_keep h.ram.2.2.1 (fun i hi => k i (.inl (.inr (.inr (.inl (by simp only [Value.ownBlock, Option.some.injEq] at hi; exact hi.symm)))))), h.ram.2.2.2⟩,
    ⟨(k _ (.inl (.inr (.inl rfl)))).trans h.tlb.1, h.tlb.2.1, own_keep h.tlb.op (fun i hi => k i (.inl (.inr (.inr (.inr (.inl hi)))))), own_keep h.tlb.oe (fun i hi => k i (.inl (.inr (.inr (.inr (.inr hi)))))), h.tlb.2.2.2.2⟩, h.by_, h.ok, h.ents, h.nd⟩
/-- What a call leaves of the document's MMU. -/
structure RStep (W W' : World) (base : Nat) (L : LocR) (vp ve : Value) (T : Tabs) (pl : Bool) (ps : List (Int × Int)) (l : List Int) : Prop where
  at_ : ∃ vp' ve', RmAt W' base L vp' ve' T pl ps l ∧ Nx W vp ve vp' ∧ Nx W vp ve ve'
  chg : Chg (rfoot L vp ve) W W'
theorem RStep.of_below {W W' : World} {base : Nat} {L : LocR} {vp ve : Value} {T : Tabs} {pl : Bool} {ps : List (Int × Int)} {l : List Int} (h : RmAt W base L vp ve T pl ps l) (b : Below W.heap.size W W') : RStep W W' base L vp ve T pl ps l :=
  ⟨⟨vp, ve, h.then b, Nx.p _ _ _, Nx.e _ _ _⟩, Chg.of_below b _⟩
theorem rfoot_of {W : World} {L : LocR} {vp ve vp' ve' : Value} (h : Nx W vp ve vp') (h2 : Nx W vp ve ve') (i : Nat) (hi : i < W.heap.size) (f : rfoot L vp' ve' i) : rfoot L vp ve i := by
  rcases f with f | f | f | f | f
  · exact .inl f
  · exact .inr (.inl f)
  · exact .inr (.inr (.inl f))
  · rcases h i f with h | h | h
    · exact .inr (.inr (.inr (.inl h)))
    · exact .inr (.inr (.inr (.inr h)))
    · omega
  · rcases h2 i f with h | h | h
    · exact .inr (.inr (.inr (.inl h)))
    · exact .inr (.inr (.inr (.inr h)))
    · omega
theorem RStep.via {W W1 W2 : World} {base : Nat} {L : LocR} {vp ve vp1 ve1 : Value} {T : Tabs} {pl : Bool} {ps : List (Int × Int)} {l : List Int} (b : Chg (rfoot L vp ve) W W1) (n1 : Nx W vp ve vp1) (n2 : Nx W vp ve ve1) (h : RStep W1 W2 base L vp1 ve1 T pl ps l) : RStep W W2 base L vp ve T pl ps l := by
  obtain ⟨⟨vp2, ve2, m2, a, c⟩, c2⟩ := h
  exact ⟨⟨vp2, ve2, m2, Nx.trans n1 n2 a b.size, Nx.trans n1 n2 c b.size⟩, b.trans c2 (fun i hi f => rfoot_of n1 n2 i hi f)⟩
theorem RStep.after {W W1 W2 : World} {base : Nat} {L : LocR} {vp ve : Value} {T : Tabs} {pl : Bool} {ps : List (Int × Int)} {l : List Int} (b : Below W.heap.size W W1) (h : RStep W1 W2 base L vp ve T pl ps l) : RStep W W2 base L vp ve T pl ps l :=
  RStep.via (Chg.of_below b _) (Nx.p _ _ _) (Nx.e _ _ _) h
theorem RStep.then {W W1 W2 : World} {base : Nat} {L : LocR} {vp ve : Value} {T : Tabs} {pl : Bool} {ps : List (Int × Int)} {l : List Int} (h : RStep W W1 base L vp ve T pl ps l) (b : Below W1.heap.size W1 W2) : RStep W W2 base L vp ve T pl ps l := by
  obtain ⟨⟨vp1, ve1, m1, n1, n2⟩, c⟩ := h
  exact RStep.via c n1 n2 (RStep.of_below m1 b)
theorem RStep.box {W W' : World} {base : Nat} {L : LocR} {vp ve : Value} {T T' : Tabs} {pl : Bool} {ps ps' : List (Int × Int)} {l l' : List Int} {g : Nat} {cs : Array Value} {ty : TypeId} {fr : Nat × Nat} (s : RStep W W' base L vp ve T' pl ps' l') (m : RmAt W base L vp ve T pl ps l) (hg : W.heap[g]? = some (.cells cs ty fr)) (ht : ¬ rTy ty) : W'.heap[g]? = some (.cells cs ty fr) :=
  (s.chg.block g (Array.getElem?_eq_some_iff.1 hg).1 (fun f => m.ne_ty hg ht g (.inl f) rfl)).trans hg
theorem RStep.setRow {w W : World} {base : Nat} {L : LocR} {vp ve : Value} {T : Tabs} {pl : Bool} {ps : List (Int × Int)} {l : List Int} {g : Nat} {cs0 : Array Value} {ty : TypeId} {fr : Nat × Nat} (s : RStep w W base L vp ve T pl ps l) (hg : w.heap.size ≤ g) (hb : W.heap[g]? = some (.cells cs0 ty fr)) (ht : ¬ rTy ty) (cs : Array Value) : RStep w (W.setRow g cs) base L vp ve T pl ps l := by
  obtain ⟨⟨vp1, ve1, m1, n1, n2⟩, c1⟩ := s
  exact ⟨⟨vp1, ve1, m1.keep (fun i k => setRow_other W g i cs (m1.ne_ty hb ht i k)), n1, n2⟩, ⟨c1.os, c1.tape, c1.output, by simp [World.setRow]; exact c1.size, fun i hi hf => (setRow_other W g i cs (by omega)).trans (c1.block i hi hf)⟩⟩
theorem RStep.put3 {w W : World} {base : Nat} {L : LocR} {vp ve : Value} {T : Tabs} {pl : Bool} {ps : List (Int × Int)} {l : List Int} {g : Nat} {cs0 : Array Value} {ty : TypeId} {fr : Nat × Nat} (s : RStep w W base L vp ve T pl ps l) (hg : w.heap.size ≤ g) (hb : W.heap[g]? = some (.cells cs0 ty fr)) (ht : ¬ rTy ty) (x y z : Value) : RStep w (((W.setCell ⟨g, 0, none⟩ x).setCell ⟨g, 1, none⟩ y).setCell ⟨g, 2, none⟩ z).drew base L vp ve T pl ps l := by
  obtain ⟨⟨vp1, ve1, m1, n1, n2⟩, c1⟩ := s
  have e : ∀ i, i ≠ g → (((W.setCell ⟨g, 0, none⟩ x).setCell ⟨g, 1, none⟩ y).setCell ⟨g, 2, none⟩ z).drew.heap[i]? = W.heap[i]? := fun i hi =>
    (Below.heap_setCell _ ⟨g, 2, none⟩ z i hi).trans ((Below.heap_setCell _ ⟨g, 1, none⟩ y i hi).trans (Below.heap_setCell W ⟨g, 0, none⟩ x i hi))
  exact ⟨⟨vp1, ve1, m1.keep (fun i k => e i (m1.ne_ty hb ht i k)), n1, n2⟩, ⟨c1.os, c1.tape, c1.output, by simpa [World.setCell] using c1.size, fun i hi hf => (e i (by omega)).trans (c1.block i hi hf)⟩⟩
/-- The parts lie apart. -/
theorem RmAt.ne {W : World} {base : Nat} {L : LocR} {vp ve : Value} {T : Tabs} {pl : Bool} {ps : List (Int × Int)} {l : List Int} (h : RmAt W base L vp ve T pl ps l) : L.m ≠ L.r ∧ L.m ≠ L.b ∧ L.m ≠ L.t ∧ L.r ≠ L.t ∧ L.b ≠ L.t ∧ L.r ≠ L.b := by
  obtain ⟨cur, hb, _⟩ := h.ram.row
  exact ⟨two_ty h.blk h.ram.1 (by decide), two_ty h.blk hb (by decide), two_ty h.blk h.tlb.1 (by decide), two_ty h.ram.1 h.tlb.1 (by decide), two_ty hb h.tlb.1 (by decide), two_ty h.ram.1 hb (by decide)⟩
theorem RmAt.ne_rows {W : World} {base : Nat} {L : LocR} {vp ve : Value} {T : Tabs} {pl : Bool} {ps : List (Int × Int)} {l : List Int} (h : RmAt W base L vp ve T pl ps l) (i : Nat) (hi : vp.ownBlock = some i ∨ ve.ownBlock = some i) : i ≠ L.m ∧ i ≠ L.r ∧ i ≠ L.b ∧ i ≠ L.t := by
  obtain ⟨cur, hb, _⟩ := h.ram.row
  have hc : ∃ cur, W.heap[i]? = some (.cells cur 23 (0, 0)) := by
    rcases hi with hi | hi
    · exact row_ty h.tlb.op i hi
    · exact row_ty h.tlb.oe i hi
  obtain ⟨cur2, hc⟩ := hc
  exact ⟨two_ty hc h.blk (by decide), two_ty hc h.ram.1 (by decide), two_ty hc hb (by decide), two_ty hc h.tlb.1 (by decide)⟩
/-- The buffer alone was turned. -/
theorem RmAt.tlb_step {W W' : World} {base : Nat} {L : LocR} {vp ve : Value} {T : Tabs} {pl : Bool} {ps ps' : List (Int × Int)} {l : List Int} (h : RmAt W base L vp ve T pl ps l) (t : TStep W W' base L.t vp ve ps')
    (he : ∀ p ∈ ps', (0 ≤ p.1 ∧ p.1 < 8388608) ∧ 0 ≤ p.2 ∧ p.2 < 4294967296) (hn : (ps'.map Prod.fst).Nodup) : RStep W W' base L vp ve T pl ps' l := by
  obtain ⟨⟨vp', ve', r, n1, n2⟩, c⟩ := t
  obtain ⟨a1, a2, a3, a4, a5, a6⟩ := h.ne
  obtain ⟨cur, hb, _⟩ := h.ram.row
  have k : ∀ i, i < W.heap.size → i = L.m ∨ i = L.r ∨ i = L.b → W'.heap[i]? = W.heap[i]? := fun i hi hm => c.block i hi (fun f => by
    rcases f with f | f
    · rcases hm with rfl | rfl | rfl
      · exact a3 f
      · exact a4 f
      · exact a5 f
    · have := h.ne_rows i f
      rcases hm with rfl | rfl | rfl
      · exact this.1 rfl
      · exact this.2.1 rfl
      · exact this.2.2.1 rfl)
  refine ⟨⟨vp', ve', ⟨(k _ h.lt (.inl rfl)).trans h.blk, h.ge, ⟨(k _ h.ram.lt (.inr (.inl rfl))).trans h.ram.1, h.ram.2.1, own_keep h.ram.2.2.1 (fun i hi => ?_), h.ram.2.2.2⟩, r, h.by_, h.ok, he, hn⟩, n1, n2⟩, c.mono (fun i f => ?_)⟩
  · simp only [Value.ownBlock, Option.some.injEq] at hi
    subst hi
    exact k _ (Array.getElem?_eq_some_iff.1 hb).1 (.inr (.inr rfl))
  · rcases f with f | f | f
    · exact .inr (.inl f)
    · exact .inr (.inr (.inr (.inl f)))
    · exact .inr (.inr (.inr (.inr f)))
/-- The memory alone was turned. -/
theorem RmAt.ram_step {W W' : World} {base n : Nat} {L : LocR} {vp ve : Value} {T : Tabs} {pl : Bool} {ps : List (Int × Int)} {l l' : List Int} (h : RmAt W base L vp ve T pl ps l) (hn : l'.length = n) (r : RRamAt W' base L.r (.slice (some ⟨L.b, 0, none⟩) n L.c) l') (g : W.grownBy W' (some L.b)) (hb : Bytes l') : RStep W W' base L vp ve T pl ps l' := by
  subst hn
  obtain ⟨a1, a2, a3, a4, a5, a6⟩ := h.ne
  refine ⟨⟨vp, ve, ⟨(g.block L.m h.lt (fun e => a2 (Option.some.inj e))).trans h.blk, h.ge, r, ⟨(g.block L.t h.tlb.lt (fun e => a5 (Option.some.inj e).symm)).trans h.tlb.1, h.tlb.2.1, own_keep h.tlb.op (fun i hi => ?_), own_keep h.tlb.oe (fun i hi => ?_), h.tlb.2.2.2.2⟩, hb, h.ok, h.ents, h.nd⟩, Nx.p _ _ _, Nx.e _ _ _⟩, ⟨g.os, g.tape, g.output, g.size, fun i hi hf => g.block i hi (fun e => hf (.inr (.inr (.inl (Option.some.inj e)))))⟩⟩
  · exact g.block i (rmine_lt h i (.inl (.inr (.inr (.inr (.inl hi)))))) (fun e => (h.ne_rows i (.inl hi)).2.2.1 (Option.some.inj e))
  · exact g.block i (rmine_lt h i (.inl (.inr (.inr (.inr (.inr hi)))))) (fun e => (h.ne_rows i (.inr hi)).2.2.1 (Option.some.inj e))
theorem rmine_of {W : World} {L : LocR} {vp ve vp' ve' : Value} (h : Nx W vp ve vp') (h2 : Nx W vp ve ve') (i : Nat) (hi : i < W.heap.size) (f : rmine L vp' ve' i) : rmine L vp ve i := by
  rcases f with f | f
  · exact .inl (rfoot_of h h2 i hi f)
  · exact .inr f
/-- A row that lies apart from the document's MMU. -/
def Off (W : World) (L : LocR) (vp ve v : Value) : Prop := ∀ i, v.ownBlock = some i → i < W.heap.size ∧ ¬ rmine L vp ve i
theorem Off.nil (W : World) (L : LocR) (vp ve : Value) : Off W L vp ve (.slice none 0 0) := fun i hi => by simp [Value.ownBlock] at hi
theorem Off.step {W W' : World} {L : LocR} {vp ve vp' ve' v : Value} (h : Off W L vp ve v) (n1 : Nx W vp ve vp') (n2 : Nx W vp ve ve') (hs : W.heap.size ≤ W'.heap.size) : Off W' L vp' ve' v := fun i hi =>
  ⟨Nat.lt_of_lt_of_le (h i hi).1 hs, fun f => (h i hi).2 (rmine_of n1 n2 i (h i hi).1 f)⟩
theorem Off.keep {W W' : World} {base B e s n : Nat} {L : LocR} {vp ve v : Value} {T : Tabs} {pl : Bool} {ps : List (Int × Int)} {l : List Int} {xs : List Value} (h : Off W L vp ve v) (st : RStep W W' base L vp ve T pl ps l) (ho : W.ownsRow B e s v n xs) : W'.ownsRow B e s v n xs :=
  own_keep ho fun i hi => st.chg.block i (h i hi).1 (fun f => (h i hi).2 (.inl f))
theorem Off.up {W W' : World} {L : LocR} {vp ve v : Value} (h : Off W L vp ve v) (hs : W.heap.size ≤ W'.heap.size) : Off W' L vp ve v := fun i hi => ⟨Nat.lt_of_lt_of_le (h i hi).1 hs, (h i hi).2⟩
/-- The row grows. -/
theorem RmAt.grown {W W' : World} {base : Nat} {L : LocR} {vp ve v : Value} {T : Tabs} {pl : Bool} {ps : List (Int × Int)} {l : List Int} (h : RmAt W base L vp ve T pl ps l) (o : Off W L vp ve v) (g : W.grownBy W' v.ownBlock) : RmAt W' base L vp ve T pl ps l :=
  h.keep fun i k => g.block i (rmine_lt h i k) (fun e => (o i e.symm).2 k)
theorem Off.grown {W W' : World} {base B e s n : Nat} {L : LocR} {vp ve v v' : Value} {T : Tabs} {pl : Bool} {ps : List (Int × Int)} {l : List Int} {xs : List Value} (o : Off W L vp ve v) (h : RmAt W base L vp ve T pl ps l) (hat : v'.ownBlock = v.ownBlock ∨ ∃ b, v'.ownBlock = some b ∧ W.heap.size ≤ b) (ho : W'.ownsRow B e s v' n xs) (hs : W.heap.size ≤ W'.heap.size) : Off W' L vp ve v' := fun i hi => by
  refine ⟨own_lt ho i hi, fun f => ?_⟩
  rcases hat with hat | ⟨b, hb, hle⟩
  · exact (o i (hat ▸ hi)).2 f
  · rw [hb] at hi
    simp only [Option.some.injEq] at hi
    have := rmine_lt h i f
    omega
theorem rmnew_call (w : World) (base gr b c : Nat) (l : List Int) (h : RRamAt w base gr (.slice (some ⟨b, 0, none⟩) l.length c) l) (hb : Bytes l) :
    Calls Try.prog 19 #[.pointer (some ⟨gr, 0, none⟩)] w fun e w' => ∃ m t, e = .returned (.pointer (some ⟨m, 0, none⟩)) ∧ RmAt w' base ⟨m, gr, b, c, t⟩ (.slice none 0 0) (.slice none 0 0) noT false [] l ∧ Below w.heap.size w w' ∧ w.heap.size ≤ m ∧ w.heap.size ≤ t := by
  have H := Aside0.mk h
  have HB := Aside0.mk hb
  clear h hb
  go_enter Try.func19, Try.ntmps19
  go_wp2_with fail
  go_ret
  have hl := H.out.lt
  have hg := H.out.2.1
  have b1 := below_alloc (Below.refl w.heap.size w) (.cells #[.slice none 0 0, .slice none 0 0] 94 (0, 0))
  have b2 := below_alloc b1 (.cells #[.pointer (some ⟨gr, 0, none⟩), .pointer (some ⟨w.heap.size, 0, none⟩), .int .u32 0, .int .u32 0, .int .u32 0, .int .u32 0, .int .u32 0, .bool false] 42 (0, 0))
  have hr : RefAt (w.alloc (.cells #[.slice none 0 0, .slice none 0 0] 94 (0, 0))) base w.heap.size (.slice none 0 0) (.slice none 0 0) [] := ⟨blk_new _ _, by omega, World.ownsRow_nil _ _ _ _, World.ownsRow_nil _ _ _ _, ne_nil _, Nat.zero_le _⟩
  refine ⟨w.heap.size + 1, w.heap.size, ?_, ⟨?_, by show base ≤ w.heap.size + 1; omega, H.out.then b2, hr.then (below_alloc (Below.refl _ _) _), HB.out, noT_ok, (fun p hp => by cases hp), List.nodup_nil⟩, b2, by omega, Nat.le_refl _⟩
  · first | rfl | simp
  · have := blk_new (w.alloc (.cells #[.slice none 0 0, .slice none 0 0] 94 (0, 0))) (.cells #[.pointer (some ⟨gr, 0, none⟩), .pointer (some ⟨w.heap.size, 0, none⟩), .int .u32 0, .int .u32 0, .int .u32 0, .int .u32 0, .int .u32 0, .bool false] 42 (0, 0))
    simpa [rmCells, noT] using this
end Go.Proofs.Ytiogbgjeimdgmaa.RefWalk
