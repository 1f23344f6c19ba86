/- The MMU's entry, walked: an address's page's entry, buffered or not. -/
import Derived.Test.YtiogbgjeimdgmaaMmuB
import Derived.Deep.RegionHeld3
namespace Go.Proofs.Ytiogbgjeimdgmaa.MmuWalk
open Go.RowKit Go.Proofs.Ytiogbgjeimdgmaa.Aid Go.Proofs.YtiogbgjeimdgmaaW.PrintWords Go.Proofs.YtiogbgjeimdgmaaW.PrintLast Go.Proofs.YtiogbgjeimdgmaaW.PrintMore
open Go.Proofs.Ytiogbgjeimdgmaa.RamWalk (RamAt Bytes leN leN_bounds get_i get_bus_i)
open Go.Proofs.Ytiogbgjeimdgmaa.TlbWalk (TlbAt Kept2 putP dropP posP entP nil2 get_yes get_no put_call mem_getD)
attribute [local go_sem] max2_int min2_int max_two min_two max_three min_three max_four min_four   -- for this text's walks alone
set_option linter.unusedVariables false
set_option linter.unusedSimpArgs false
/-- The entry that stands in memory, or why none is read. -/
def memF (T : Tabs) (l : List Int) (va : Int) (wr : Bool) : Int × Flt :=
  if offE T va = true then (0, flt 2 va 1 wr) else if atE T va + 4 ≤ l.length then (leN ((l.drop (atE T va).toNat).take 4), noF) else (0, flt 1 va 0 wr)
def lookF (T : Tabs) (ps : List (Int × Int)) (l : List Int) (va : Int) (wr : Bool) : Int × Flt :=
  if posP (va / 512) ps < ps.length then (entP (va / 512) ps, noF) else memF T l va wr
def entryF (T : Tabs) (ps : List (Int × Int)) (l : List Int) (va : Int) (u wr : Bool) : Int × Flt :=
  if (lookF T ps l va wr).2.1 ≠ 0 then (0, (lookF T ps l va wr).2) else if mayE (lookF T ps l va wr).1 u wr = false then (0, flt 2 va 0 wr) else if isE (lookF T ps l va wr).1 = false then (0, flt 3 va 0 wr) else ((lookF T ps l va wr).1, noF)
def entryP (T : Tabs) (ps : List (Int × Int)) (l : List Int) (va : Int) (u wr keep : Bool) : List (Int × Int) :=
  if (entryF T ps l va u wr).2.1 = 0 ∧ ¬ posP (va / 512) ps < ps.length ∧ keep = true then putP (va / 512) (entryF T ps l va u wr).1 ps else ps
/-- What a call leaves of an MMU. -/
def foot (L : Loc) (v : Value) (k : Nat) : Prop := k = L.m ∨ k = L.t ∨ k = L.b ∨ some k = v.ownBlock
/-- What a call leaves of the buffer's row. -/
def NextRow (W : World) (v v' : Value) : Prop := ∀ i, v'.ownBlock = some i → v.ownBlock = some i ∨ W.heap.size ≤ i
theorem NextRow.of_or {W : World} {v v' : Value} (h : v'.ownBlock = v.ownBlock ∨ ∃ b, v'.ownBlock = some b ∧ W.heap.size ≤ b) : NextRow W v v' := fun i hi => by
  rcases h with h | ⟨b, h, hb⟩
  · exact .inl (h ▸ hi)
  · rw [h] at hi
    simp only [Option.some.injEq] at hi
    exact .inr (by omega)
theorem NextRow.nil (W : World) (v : Value) : NextRow W v (.slice none 0 0) := fun i hi => by simp [Value.ownBlock] at hi
theorem NextRow.same (W : World) (v : Value) : NextRow W v v := fun i hi => .inl hi
theorem NextRow.up {W W1 : World} {v v' : Value} (h : NextRow W1 v v') (hs : W.heap.size ≤ W1.heap.size) : NextRow W v v' := fun i hi => (h i hi).imp id (fun k => Nat.le_trans hs k)
theorem NextRow.trans {W W1 : World} {v v1 v2 : Value} (h : NextRow W v v1) (k : NextRow W1 v1 v2) (hs : W.heap.size ≤ W1.heap.size) : NextRow W v v2 := fun i hi => by
  rcases k i hi with k | k
  · exact h i k
  · exact .inr (Nat.le_trans hs k)
structure MStep (W W' : World) (base : Nat) (L : Loc) (v : Value) (T : Tabs) (ps : List (Int × Int)) (l : List Int) : Prop where
  at_ : ∃ v', MmuAt W' base L v' T ps l ∧ NextRow W v v'
  chg : Chg (foot L v) W W'
theorem MStep.of_below {W W' : World} {base : Nat} {L : Loc} {v : Value} {T : Tabs} {ps : List (Int × Int)} {l : List Int} (h : MmuAt W base L v T ps l) (b : Below W.heap.size W W') : MStep W W' base L v T ps l :=
  ⟨⟨v, h.then b, NextRow.same _ _⟩, Chg.of_below b _⟩
theorem foot_of {W : World} {L : Loc} {v v' : Value} (h : NextRow W v v') (i : Nat) (hi : i < W.heap.size) (f : foot L v' i) : foot L v i := by
  rcases f with f | f | f | f
  · exact .inl f
  · exact .inr (.inl f)
  · exact .inr (.inr (.inl f))
  · rcases h i f.symm with h | h
    · exact .inr (.inr (.inr h.symm))
    · omega
theorem MStep.trans {W W1 W2 : World} {base : Nat} {L : Loc} {v : Value} {T1 T2 : Tabs} {ps1 ps2 : List (Int × Int)} {l1 l2 : List Int} (h : MStep W W1 base L v T1 ps1 l1)
    (k : ∀ v1, MmuAt W1 base L v1 T1 ps1 l1 → MStep W1 W2 base L v1 T2 ps2 l2) : MStep W W2 base L v T2 ps2 l2 := by
  obtain ⟨⟨v1, m1, n1⟩, c1⟩ := h
  obtain ⟨⟨v2, m2, n2⟩, c2⟩ := k v1 m1
  exact ⟨⟨v2, m2, n1.trans n2 c1.size⟩, c1.trans c2 (fun i hi f => foot_of n1 i hi f)⟩
theorem MStep.then {W W1 W2 : World} {base : Nat} {L : Loc} {v : Value} {T : Tabs} {ps : List (Int × Int)} {l : List Int} (h : MStep W W1 base L v T ps l) (b : Below W1.heap.size W1 W2) : MStep W W2 base L v T ps l :=
  h.trans fun v1 m1 => MStep.of_below m1 b
theorem MStep.after {W W1 W2 : World} {base : Nat} {L : Loc} {v : Value} {T : Tabs} {ps : List (Int × Int)} {l : List Int} (b : Below W.heap.size W W1) (h : MStep W1 W2 base L v T ps l) : MStep W W2 base L v T ps l := by
  obtain ⟨⟨v1, m1, n1⟩, c1⟩ := h
  exact ⟨⟨v1, m1, n1.up b.size⟩, (Chg.of_below b _).trans c1 (fun i _ f => f)⟩
/-- The parts of an MMU lie apart. -/
theorem RamAt.ne_of {W : World} {base base' g b n c t : Nat} {l : List Int} {v : Value} {ps : List (Int × Int)} (h : RamAt W base g (.slice (some ⟨b, 0, none⟩) n c) l) (k : TlbAt W base' t v ps) : g ≠ t ∧ b ≠ t ∧ some g ≠ v.ownBlock ∧ some b ≠ v.ownBlock := by
  obtain ⟨cur, hb, _⟩ := h.row
  have hg := h.1
  have ht := k.1
  have hv : ∀ i, v.ownBlock = some i → ∃ cur, W.heap[i]? = some (.cells cur 136 (0, 0)) := by
    intro i hi
    rcases k.2.2.1.2 with ⟨rfl, _⟩ | ⟨b', c', cur, rfl, _, hh, _⟩
    · simp [Value.ownBlock] at hi
    · simp only [Value.ownBlock, Option.some.injEq] at hi
      subst hi
      exact ⟨cur, hh⟩
  refine ⟨?_, ?_, ?_, ?_⟩
  · rintro rfl; rw [hg] at ht; simp at ht
  · rintro rfl; rw [hb] at ht; simp at ht
  · intro e; obtain ⟨cur', hc⟩ := hv g e.symm; rw [hg] at hc; simp at hc
  · intro e; obtain ⟨cur', hc⟩ := hv b e.symm; rw [hb] at hc; simp at hc
theorem MmuAt.m_ne {W : World} {base : Nat} {L : Loc} {v : Value} {T : Tabs} {ps : List (Int × Int)} {l : List Int} (h : MmuAt W base L v T ps l) : L.m ≠ L.r ∧ L.m ≠ L.b ∧ L.m ≠ L.t ∧ some L.m ≠ v.ownBlock := by
  have hm := h.blk
  refine ⟨?_, ?_, ?_, ?_⟩
  · intro e; have := h.ram.1; rw [← e, hm] at this; simp at this
  · intro e; obtain ⟨cur, hb, _⟩ := h.ram.row; rw [← e, hm] at hb; simp at hb
  · intro e; have := h.tlb.1; rw [← e, hm] at this; simp at this
  · intro e
    rcases h.tlb.2.2.1.2 with ⟨rfl, _⟩ | ⟨b', c', cur, rfl, _, hh, _⟩
    · simp [Value.ownBlock] at e
    · simp only [Value.ownBlock, Option.some.injEq] at e
      subst e
      rw [hm] at hh; simp at hh
/-- The buffer alone was turned. -/
theorem MmuAt.tlb_step {W W' : World} {base : Nat} {L : Loc} {v v' : Value} {T : Tabs} {ps ps' : List (Int × Int)} {l : List Int} (h : MmuAt W base L v T ps l) (t : TlbAt W' base L.t v' ps') (k : Kept2 W W' L.t v.ownBlock)
    (n : NextRow W v v') (he : ∀ p ∈ ps', (0 ≤ p.1 ∧ p.1 < 8388608) ∧ 0 ≤ p.2 ∧ p.2 < 4294967296) : MStep W W' base L v T ps' l := by
  obtain ⟨a1, a2, a3, a4⟩ := RamAt.ne_of h.ram h.tlb
  obtain ⟨b1, b2, b3, b4⟩ := h.m_ne
  refine ⟨⟨v', ⟨(k.block L.m h.lt b3 b4).trans h.blk, h.ge, ?_, t, h.by_, h.ok, he⟩, n⟩, ⟨k.os, k.tape, k.output, k.size, fun i hi hf => k.block i hi (fun e => hf (.inr (.inl e))) (fun e => hf (.inr (.inr (.inr e))))⟩⟩
  obtain ⟨cur, hb, _⟩ := h.ram.row
  refine ⟨(k.block L.r (Array.getElem?_eq_some_iff.1 h.ram.1).1 a1 a3).trans h.ram.1, h.ram.2.1, ?_, h.ram.2.2.2⟩
  obtain ⟨o1, o2⟩ := h.ram.2.2.1
  refine ⟨o1, ?_⟩
  rcases o2 with o2 | ⟨b, c, cur', hv, hb', hh, r⟩
  · exact .inl o2
  · have hbb : b = L.b := by simp only [Value.slice.injEq, Option.some.injEq, Addr.mk.injEq, and_true] at hv; exact hv.1.symm
    subst hbb
    exact .inr ⟨_, c, cur', hv, hb', (k.block _ (Array.getElem?_eq_some_iff.1 hb).1 a2 a4).trans hh, r⟩
/-- Rows stay where their block does. -/
theorem own_keep {W W' : World} {base e s n : Nat} {v : Value} {xs : List Value} (h : W.ownsRow base e s v n xs) (k : ∀ i, v.ownBlock = some i → W'.heap[i]? = W.heap[i]?) : W'.ownsRow base e s v n xs := by
  obtain ⟨o1, o2⟩ := h
  refine ⟨o1, ?_⟩
  rcases o2 with o2 | ⟨b, c, cur, rfl, hb, hh, r⟩
  · exact .inl o2
  · exact .inr ⟨b, c, cur, rfl, hb, (k b rfl).trans hh, r⟩
/-- The blocks of an MMU: its footprint, and the memory's own. -/
def mine (L : Loc) (v : Value) (i : Nat) : Prop := foot L v i ∨ i = L.r
theorem MmuAt.keep {W W' : World} {base : Nat} {L : Loc} {v : Value} {T : Tabs} {ps : List (Int × Int)} {l : List Int} (h : MmuAt W base L v T ps l) (k : ∀ i, mine L v i → W'.heap[i]? = W.heap[i]?) : MmuAt W' base L v T ps l :=
  ⟨(k _ (.inl (.inl rfl))).trans h.blk, h.ge,
    ⟨(k _ (.inr rfl)).trans h.ram.1, h.ram.2.1, own_keep h.ram.2.2.1 (fun i hi => k i (.inl (.inr (.inr (.inl (by simp only [Value.ownBlock, Option.some.injEq] at hi; exact hi.symm)))))), h.ram.2.2.2⟩,
    ⟨(k _ (.inl (.inr (.inl rfl)))).trans h.tlb.1, h.tlb.2.1, own_keep h.tlb.2.2.1 (fun i hi => k i (.inl (.inr (.inr (.inr hi.symm))))), h.tlb.2.2.2⟩, h.by_, h.ok, h.ents⟩
def mTy (ty : TypeId) : Prop := ty = 107 ∨ ty = 102 ∨ ty = 5 ∨ ty = 132 ∨ ty = 136
theorem MmuAt.types {W : World} {base : Nat} {L : Loc} {v : Value} {T : Tabs} {ps : List (Int × Int)} {l : List Int} (h : MmuAt W base L v T ps l) (i : Nat) (k : mine L v i) : ∃ cs ty, W.heap[i]? = some (.cells cs ty (0, 0)) ∧ mTy ty := by
  rcases k with (k | k | k | k) | k
  · exact ⟨_, _, by rw [k]; exact h.blk, .inl rfl⟩
  · exact ⟨_, _, by rw [k]; exact h.tlb.1, .inr (.inr (.inr (.inl rfl)))⟩
  · obtain ⟨cur, hb, _⟩ := h.ram.row
    exact ⟨_, _, by rw [k]; exact hb, .inr (.inr (.inl rfl))⟩
  · rcases h.tlb.2.2.1.2 with ⟨rfl, _⟩ | ⟨b', c', cur, rfl, _, hh, _⟩
    · simp [Value.ownBlock] at k
    · simp only [Value.ownBlock, Option.some.injEq] at k
      subst k
      exact ⟨_, _, hh, .inr (.inr (.inr (.inr rfl)))⟩
  · exact ⟨_, _, by rw [k]; exact h.ram.1, .inr (.inl rfl)⟩
theorem MmuAt.ne_ty {W : World} {base : Nat} {L : Loc} {v : Value} {T : Tabs} {ps : List (Int × Int)} {l : List Int} (h : MmuAt W base L v T ps l) {g : Nat} {cs : Array Value} {ty : TypeId} {fr : Nat × Nat} (hg : W.heap[g]? = some (.cells cs ty fr)) (ht : ¬ mTy ty) (i : Nat) (k : mine L v i) : i ≠ g := by
  rintro rfl
  obtain ⟨cs', ty', h', m⟩ := h.types i k
  rw [hg] at h'
  simp only [Option.some.injEq, Obj.cells.injEq] at h'
  exact ht (h'.2.1 ▸ m)
/-- A block of another kind, made behind, is stored into. -/
theorem MStep.setRow {w W : World} {base : Nat} {L : Loc} {v : Value} {T : Tabs} {ps : List (Int × Int)} {l : List Int} {g : Nat} {cs0 : Array Value} {ty : TypeId} {fr : Nat × Nat} (s : MStep w W base L v T ps l) (hg : w.heap.size ≤ g) (hb : W.heap[g]? = some (.cells cs0 ty fr)) (ht : ¬ mTy ty) (cs : Array Value) : MStep w (W.setRow g cs) base L v T ps l := by
  obtain ⟨⟨v1, m1, n1⟩, c1⟩ := s
  refine ⟨⟨v1, m1.keep (fun i k => setRow_other W g i cs (m1.ne_ty hb ht i k)), n1⟩, ⟨c1.os, c1.tape, c1.output, by simp [World.setRow]; exact c1.size, fun i hi hf => (setRow_other W g i cs (by omega)).trans (c1.block i hi hf)⟩⟩
end Go.Proofs.Ytiogbgjeimdgmaa.MmuWalk
