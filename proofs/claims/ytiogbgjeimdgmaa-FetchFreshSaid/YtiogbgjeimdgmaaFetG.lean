/- Two queues over one MMU: the contracts over one state. -/
import Derived.Test.YtiogbgjeimdgmaaFetF
namespace Go.Proofs.Ytiogbgjeimdgmaa.MmuWalk
open Go.RowKit Go.Proofs.Ytiogbgjeimdgmaa.Aid Go.Proofs.YtiogbgjeimdgmaaW.PrintWords Go.Proofs.YtiogbgjeimdgmaaW.PrintLast Go.Proofs.YtiogbgjeimdgmaaW.PrintMore
open Go.Proofs.Ytiogbgjeimdgmaa.RamWalk (RamAt Bytes leN)
open Go.Proofs.Ytiogbgjeimdgmaa.TlbWalk (TlbAt own_val own_some)
set_option linter.unusedVariables false
set_option linter.unusedSimpArgs false
/-- What a queue is: its place, for whom, its bytes, its fault. -/
structure Qs where
  pc : Int
  u : Bool
  bs : List Int
  f : Flt
def Qs.ok (s : Qs) : Prop := R32 s.pc ∧ goodF s.f ∧ s.bs.length ≤ 16
/-- Two queues over an MMU, made behind w0. -/
def FP2 (w0 W : World) (L : Loc) (T : Tabs) (ps : List (Int × Int)) (l : List Int) (q p : Nat) (s t : Qs) : Prop :=
  Below w0.heap.size w0 W ∧ ∃ v vb vp, MmuAt W w0.heap.size L v T ps l ∧ (QAt W w0.heap.size q L.m s.pc s.u vb s.bs s.f ∧ vb.ownBlock ≠ some L.b) ∧ (QAt W w0.heap.size p L.m t.pc t.u vp t.bs t.f ∧ vp.ownBlock ≠ some L.b) ∧ q ≠ p ∧ ∀ i, vb.ownBlock = some i → vp.ownBlock ≠ some i
theorem FP2.swap {w0 W : World} {L : Loc} {T : Tabs} {ps : List (Int × Int)} {l : List Int} {q p : Nat} {s t : Qs} (h : FP2 w0 W L T ps l q p s t) : FP2 w0 W L T ps l p q t s := by
  obtain ⟨b, v, vb, vp, m, k, k2, ne, d⟩ := h
  exact ⟨b, v, vp, vb, m, k2, k, fun e => ne e.symm, fun i h1 h2 => d i h2 h1⟩
theorem FP2.then {w0 W W' : World} {L : Loc} {T : Tabs} {ps : List (Int × Int)} {l : List Int} {q p : Nat} {s t : Qs} (h : FP2 w0 W L T ps l q p s t) (b : Below W.heap.size W W') : FP2 w0 W' L T ps l q p s t := by
  obtain ⟨b0, v, vb, vp, m, k, k2, ne, d⟩ := h
  exact ⟨below_step b0 b, v, vb, vp, m.then b, ⟨k.1.then b, k.2⟩, ⟨k2.1.then b, k2.2⟩, ne, d⟩
theorem row_cells {W : World} {base e s n : Nat} {v : Value} {xs : List Value} (h : W.ownsRow base e s v n xs) (i : Nat) (hi : v.ownBlock = some i) : ∃ cur, W.heap[i]? = some (.cells cur e (0, 0)) := by
  rcases h.2 with ⟨rfl, _⟩ | ⟨b, c, cur, rfl, _, hh, _⟩
  · simp [Value.ownBlock] at hi
  · simp only [Value.ownBlock, Option.some.injEq] at hi
    subst hi
    exact ⟨cur, hh⟩
theorem FP2.of {w0 W W' : World} {L : Loc} {T : Tabs} {ps : List (Int × Int)} {l : List Int} {q p : Nat} {s t : Qs} {v vb vp : Value} (s' : Qs) (b : Below w0.heap.size w0 W) (m : MmuAt W w0.heap.size L v T ps l) (k : QAt W w0.heap.size q L.m s.pc s.u vb s.bs s.f) (k2 : QAt W w0.heap.size p L.m t.pc t.u vp t.bs t.f) (sep2 : vp.ownBlock ≠ some L.b) (ne : q ≠ p) (d : ∀ i, vb.ownBlock = some i → vp.ownBlock ≠ some i)
    (st : FStep W W' w0.heap.size L v T ps l q vb s'.pc s'.u s'.bs s'.f) : FP2 w0 W' L T ps l q p s' t := by
  obtain ⟨v', vb', m', _, k', nx, sep, c⟩ := st
  refine ⟨c.below b (fun i hi => ?_), v', vb', vp, m', ⟨k', sep⟩, ⟨k2.keep (fun i hi => c.block i ?_ ?_), sep2⟩, ne, fun i h1 h2 => ?_⟩
  · rcases hi with hi | hi
    · exact foot_ge m i hi
    · exact qfoot_ge k i hi
  · rcases hi with rfl | hi
    · exact k2.lt
    · exact (k2.rowlt i hi.symm).2.1
  · intro e
    rcases e with e | e
    · rcases hi with hi | hi
      · exact q_ne_ty k2 m i (.inl e) hi
      · exact q_row_ne k2 m sep2 i (.inl e) hi.symm
    · rcases e with e | e
      · rcases hi with hi | hi
        · exact ne (e.symm.trans hi)
        · obtain ⟨cur, hc⟩ := (row_cells k2.row i hi.symm)
          rw [e, k.blk] at hc; simp at hc
      · rcases hi with hi | hi
        · obtain ⟨cur, hc⟩ := (row_cells k.row i e.symm)
          rw [hi, k2.blk] at hc; simp at hc
        · exact d i e.symm hi.symm
  · rcases nx i h1 with h1 | h1
    · exact d i h1 h2
    · have := (k2.rowlt i h2).2.1; omega
theorem f2_new (w0 W : World) (L : Loc) (T : Tabs) (ps : List (Int × Int)) (l : List Int) (q : Nat) (pc : Int) (u : Bool) (bs : List Int) (f : Flt) (h : FP w0 W L T ps l q pc u bs f) :
    Calls Try.prog 21 #[.pointer (some ⟨L.m, 0, none⟩)] W fun e w' => ∃ p, e = .returned (.pointer (some ⟨p, 0, none⟩)) ∧ FP2 w0 w' L T ps l q p ⟨pc, u, bs, f⟩ ⟨0, false, [], noF⟩ := by
  obtain ⟨b, v, vb, m, k, s⟩ := h
  refine (fnew_call W L.m).mono ?_
  rintro e w' ⟨p, rfl, k2, hb⟩
  refine ⟨p, rfl, below_step b hb, v, vb, _, m.then hb, ⟨k.then hb, s⟩, ⟨⟨k2.blk, Nat.le_trans b.size k2.ge, own_less k2.row b.size⟩, by simp [Value.ownBlock]⟩, ?_, fun i _ => by simp [Value.ownBlock]⟩
  intro e
  have := k.lt
  have := k2.ge
  omega
theorem f2_cycle (w0 W : World) (L : Loc) (T : Tabs) (ps : List (Int × Int)) (l : List Int) (q p : Nat) (s t : Qs) (h : FP2 w0 W L T ps l q p s t) (hs : s.ok) :
    Calls Try.prog 23 #[.pointer (some ⟨q, 0, none⟩)] W fun e w' => e = .returned (.tuple #[]) ∧ FP2 w0 w' L T ps l q p ⟨(cycF T ps l s.pc s.u s.bs s.f).1, s.u, (cycF T ps l s.pc s.u s.bs s.f).2.1, (cycF T ps l s.pc s.u s.bs s.f).2.2⟩ t := by
  obtain ⟨b, v, vb, vp, m, k, k2, ne, d⟩ := h
  refine (cycle_call W _ q L v T ps l s.pc s.u vb s.bs s.f m k.1 k.2 hs.1 hs.2.1).mono ?_
  rintro e w' ⟨rfl, st⟩
  exact ⟨rfl, FP2.of ⟨_, s.u, _, _⟩ b m k.1 k2.1 k2.2 ne d st⟩
theorem f2_flush (w0 W : World) (L : Loc) (T : Tabs) (ps : List (Int × Int)) (l : List Int) (q p : Nat) (s t : Qs) (pc' : Int) (u' : Bool) (h : FP2 w0 W L T ps l q p s t) :
    Calls Try.prog 22 #[.pointer (some ⟨q, 0, none⟩), .int .u32 pc', .bool u'] W fun e w' => e = .returned (.tuple #[]) ∧ FP2 w0 w' L T ps l q p ⟨pc', u', [], noF⟩ t := by
  obtain ⟨b, v, vb, vp, m, k, k2, ne, d⟩ := h
  refine (flush_call W _ q L.m s.pc pc' s.u u' vb s.bs s.f k.1).mono ?_
  rintro e w' ⟨rfl, k', c⟩
  exact ⟨rfl, FP2.of (s := s) ⟨pc', u', [], noF⟩ b m k.1 k2.1 k2.2 ne d (FStep.of (MStep.of_below m (Below.refl _ _)) k.1 k.2 k' (NextRow.nil _ _) (c.mono (fun i hi => .inl hi)))⟩
theorem f2_len (w0 W : World) (L : Loc) (T : Tabs) (ps : List (Int × Int)) (l : List Int) (q p : Nat) (s t : Qs) (h : FP2 w0 W L T ps l q p s t) :
    Calls Try.prog 26 #[.pointer (some ⟨q, 0, none⟩)] W fun e w' => e = .returned (.int .i64 (s.bs.length : Nat)) ∧ W = w' := by
  obtain ⟨b, v, vb, vp, m, k, k2, ne, d⟩ := h
  exact plen w0 W L T ps l q s.pc s.u s.bs s.f ⟨b, v, vb, m, k.1, k.2⟩
theorem f2_next (w0 W : World) (L : Loc) (T : Tabs) (ps : List (Int × Int)) (l : List Int) (q p : Nat) (s t : Qs) (h : FP2 w0 W L T ps l q p s t) :
    Calls Try.prog 27 #[.pointer (some ⟨q, 0, none⟩)] W fun e w' => e = .returned (.int .u32 s.pc) ∧ W = w' := by
  obtain ⟨b, v, vb, vp, m, k, k2, ne, d⟩ := h
  exact pnext w0 W L T ps l q s.pc s.u s.bs s.f ⟨b, v, vb, m, k.1, k.2⟩
theorem f2_have (w0 W : World) (L : Loc) (T : Tabs) (ps : List (Int × Int)) (l : List Int) (q p : Nat) (s t : Qs) (n : Nat) (j : Int) (hj : (n : Int) = j) (h : FP2 w0 W L T ps l q p s t) (h1 : 0 < n) (hn : n ≤ s.bs.length) (hs : s.ok) :
    Calls Try.prog 25 #[.pointer (some ⟨q, 0, none⟩), .int .i64 j] W fun e w' => ∃ b1 c1, e = .returned (.tuple #[.slice (some ⟨b1, 0, none⟩) n c1, (.agg #[.int .i64 0, .int .u32 0, .int .u32 0]), .bool true]) ∧ w'.ownsRow W.heap.size 5 1 (.slice (some ⟨b1, 0, none⟩) n c1) n (nums .u8 (s.bs.take n)) ∧ FP2 w0 w' L T ps l q p ⟨s.pc, s.u, s.bs.drop n, s.f⟩ t ∧ Chg (fun i => i = q) W w' := by
  subst hj
  obtain ⟨b, v, vb, vp, m, k, k2, ne, d⟩ := h
  obtain ⟨b2, c2, rfl⟩ : ∃ b2 c2, vb = .slice (some ⟨b2, 0, none⟩) s.bs.length c2 := by
    have := k.1.row
    obtain ⟨j, hj⟩ : ∃ j, s.bs.length = j + 1 := ⟨s.bs.length - 1, by omega⟩
    rw [hj] at this
    obtain ⟨b2, c2, e⟩ := own_some this
    exact ⟨b2, c2, by rw [e, hj]⟩
  refine (take_have W _ q L.m s.pc s.u _ c2 n s.bs s.f k.1 hn (by have := hs.2.2; omega) hs.2.2).mono ?_
  rintro e w' ⟨b1, c1, v2, rfl, o, k3, n2, c⟩
  exact ⟨b1, c1, rfl, o, FP2.of (s := s) ⟨s.pc, s.u, s.bs.drop n, s.f⟩ b m k.1 k2.1 k2.2 ne d (FStep.of (MStep.of_below m (Below.refl _ _)) k.1 k.2 k3 n2 (c.mono (fun i hi => .inl hi))), c⟩
theorem f2_none (w0 W : World) (L : Loc) (T : Tabs) (ps : List (Int × Int)) (l : List Int) (q p : Nat) (s t : Qs) (j : Int) (h : FP2 w0 W L T ps l q p s t) (hn : ¬ j ≤ s.bs.length) (h16 : j ≤ 16) :
    Calls Try.prog 25 #[.pointer (some ⟨q, 0, none⟩), .int .i64 j] W fun e w' => e = .returned (.tuple #[.slice none 0 0, .agg #[.int .i64 s.f.1, .int .u32 s.f.2.1, .int .u32 s.f.2.2], .bool (s.f.1 != 0)]) ∧ FP2 w0 w' L T ps l q p s t ∧ Below W.heap.size W w' := by
  have h0 := h
  obtain ⟨b, v, vb, vp, m, k, k2, ne, d⟩ := h
  refine (ptake_none w0 W L T ps l q s.pc s.u s.bs s.f j ⟨b, v, vb, m, k.1, k.2⟩ hn h16).mono ?_
  rintro e w' ⟨rfl, _, hb⟩
  exact ⟨rfl, h0.then hb, hb⟩
theorem f2_lt {w0 W : World} {L : Loc} {T : Tabs} {ps : List (Int × Int)} {l : List Int} {q p : Nat} {s t : Qs} (h : FP2 w0 W L T ps l q p s t) : q < W.heap.size ∧ p < W.heap.size := by
  obtain ⟨b, v, vb, vp, m, k, k2, ne, d⟩ := h
  exact ⟨k.1.lt, k2.1.lt⟩
end Go.Proofs.Ytiogbgjeimdgmaa.MmuWalk
