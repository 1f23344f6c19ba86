/- The fetch queue's Take of what is not there; the contracts over one state; alive. -/
import Derived.Test.YtiogbgjeimdgmaaFetD
namespace Go.Proofs.Ytiogbgjeimdgmaa.MmuWalk
open Go.RowKit Go.Proofs.Ytiogbgjeimdgmaa.Aid Go.Proofs.YtiogbgjeimdgmaaW.PrintWords Go.Proofs.YtiogbgjeimdgmaaW.PrintLast Go.Proofs.YtiogbgjeimdgmaaW.PrintMore
open Go.Proofs.Ytiogbgjeimdgmaa.RamWalk (RamAt Bytes leN clone_n bytes_n new_nat put_i load_n own_cell)
open Go.Proofs.Ytiogbgjeimdgmaa.TlbWalk (TlbAt Kept2 putP dropP posP entP nil2 own_val)
attribute [local go_sem] max2_int min2_int max_two min_two max_three min_three max_four min_four   -- for this text's walks alone
set_option linter.unusedVariables false
set_option linter.unusedSimpArgs false
set_option maxRecDepth 100000 in
set_option maxHeartbeats 2000000 in
theorem take_none (w : World) (base q m : Nat) (pc fk fv fi : Int) (u : Bool) (A : Option Addr) (c k : Nat) (n : Int) (bs : List Int) (h : QAt w base q m pc u (.slice A k c) bs (fk, fv, fi)) (hn : ¬ n ≤ k) (h16 : n ≤ 16) :
    Calls Try.prog 25 #[.pointer (some ⟨q, 0, none⟩), .int .i64 n] w fun e w' => e = .returned (.tuple #[.slice none 0 0, .agg #[.int .i64 fk, .int .u32 fv, .int .u32 fi], .bool (fk != 0)]) ∧ Below w.heap.size w w' := by
  have BX := box1 w (.cells #[.int .i64 0, .int .u32 0, .int .u32 0] 47 (0, 0))
  obtain ⟨W, hW⟩ : ∃ W, w.alloc (.cells #[.int .i64 0, .int .u32 0, .int .u32 0] 47 (0, 0)) = W := ⟨_, rfl⟩
  rw [hW] at BX
  have BX := Aside0.mk BX
  have c3 : W.cell? ⟨q, 3, none⟩ = some (.slice A k c) := (h.then BX.out.1).cell 3
  have c4 : W.cell? ⟨q, 4, none⟩ = some (.int .i64 fk) := (h.then BX.out.1).cell 4
  have c5 : W.cell? ⟨q, 5, none⟩ = some (.int .u32 fv) := (h.then BX.out.1).cell 5
  have c6 : W.cell? ⟨q, 6, none⟩ = some (.int .u32 fi) := (h.then BX.out.1).cell 6
  have z0 := cell_of_row _ _ 0 _ _ _ BX.out.2
  have z1 := cell_of_row _ _ 1 _ _ _ BX.out.2
  have z2 := cell_of_row _ _ 2 _ _ _ BX.out.2
  have g0 := frozen_of_row _ _ 0 _ _ BX.out.2
  have g1 := frozen_of_row _ _ 1 _ _ BX.out.2
  have g2 := frozen_of_row _ _ 2 _ _ BX.out.2
  simp only [List.getElem?_toArray, List.getElem?_cons_zero, List.getElem?_cons_succ] at z0 z1 z2
  have hn0 : ¬ n < 0 := by omega
  have hn5 : ¬ 16 < n := by omega
  have hqs : ¬ w.heap.size = q := by have := h.lt; omega
  clear h
  go_enter Try.func25, Try.ntmps25
  go_wp2
  go_region
  all_goals (
    go_wp2
    refine bodyPost_ret (results_tct rfl _ _ w.heap.size 47 #[.int .i64 fk, .int .u32 fv, .int .u32 fi] (0, 0) _ rfl (flt3_put BX.out.2 _ _ _) Try.underlying47 rfl infoF) rfl ⟨rfl, flt3_below BX.out.1 (Nat.le_refl _) _ _ _⟩)
theorem foot_ge {W : World} {base : Nat} {L : Loc} {v : Value} {T : Tabs} {ps : List (Int × Int)} {l : List Int} (h : MmuAt W base L v T ps l) (i : Nat) (f : foot L v i) : base ≤ i := by
  rcases f with f | f | f | f
  · rw [f]; exact h.ge
  · rw [f]; exact h.tlb.2.1
  · rw [f]; exact h.ram.baseb
  · exact (h.tlb.row i f.symm).1
theorem qfoot_ge {W : World} {base q m : Nat} {pc : Int} {u : Bool} {vb : Value} {bs : List Int} {f : Flt} (h : QAt W base q m pc u vb bs f) (i : Nat) (k : qfoot q vb i) : base ≤ i := by
  rcases k with k | k
  · rw [k]; exact h.ge
  · exact (h.rowlt i k.symm).1
/-- An MMU that was made behind w0. -/
def MP (w0 W : World) (L : Loc) (T : Tabs) (ps : List (Int × Int)) (l : List Int) : Prop := Below w0.heap.size w0 W ∧ ∃ v, MmuAt W w0.heap.size L v T ps l
theorem MP.step {w0 W W' : World} {L : Loc} {v : Value} {T T' : Tabs} {ps ps' : List (Int × Int)} {l l' : List Int} (b : Below w0.heap.size w0 W) (h : MmuAt W w0.heap.size L v T ps l) (s : MStep W W' w0.heap.size L v T' ps' l') : MP w0 W' L T' ps' l' := by
  obtain ⟨⟨v', m, _⟩, c⟩ := s
  exact ⟨c.below b (fun i hi => foot_ge h i hi), v', m⟩
/-- An MMU and a queue over it, made behind w0. -/
def FP (w0 W : World) (L : Loc) (T : Tabs) (ps : List (Int × Int)) (l : List Int) (q : Nat) (pc : Int) (u : Bool) (bs : List Int) (f : Flt) : Prop :=
  Below w0.heap.size w0 W ∧ ∃ v vb, MmuAt W w0.heap.size L v T ps l ∧ QAt W w0.heap.size q L.m pc u vb bs f ∧ vb.ownBlock ≠ some L.b
theorem FP.then {w0 W W' : World} {L : Loc} {T : Tabs} {ps : List (Int × Int)} {l : List Int} {q : Nat} {pc : Int} {u : Bool} {bs : List Int} {f : Flt} (h : FP w0 W L T ps l q pc u bs f) (b : Below W.heap.size W W') : FP w0 W' L T ps l q pc u bs f := by
  obtain ⟨b0, v, vb, m, k, s⟩ := h
  exact ⟨below_step b0 b, v, vb, m.then b, k.then b, s⟩
theorem FP.of {w0 W W' : World} {L : Loc} {v : Value} {T : Tabs} {ps : List (Int × Int)} {l : List Int} {q : Nat} {vb : Value} {pc pc' : Int} {u u' : Bool} {bs bs' : List Int} {f f' : Flt} (b : Below w0.heap.size w0 W) (m : MmuAt W w0.heap.size L v T ps l) (k : QAt W w0.heap.size q L.m pc u vb bs f)
    (s : FStep W W' w0.heap.size L v T ps l q vb pc' u' bs' f') : FP w0 W' L T ps l q pc' u' bs' f' := by
  obtain ⟨v', vb', m', _, k', _, sep, c⟩ := s
  refine ⟨c.below b (fun i hi => ?_), v', vb', m', k', sep⟩
  rcases hi with hi | hi
  · exact foot_ge m i hi
  · exact qfoot_ge k i hi
theorem pcycle (w0 W : World) (L : Loc) (T : Tabs) (ps : List (Int × Int)) (l : List Int) (q : Nat) (pc : Int) (u : Bool) (bs : List Int) (f : Flt) (h : FP w0 W L T ps l q pc u bs f) (hpc : R32 pc) (hf : goodF f) :
    Calls Try.prog 23 #[.pointer (some ⟨q, 0, none⟩)] W fun e w' => e = .returned (.tuple #[]) ∧ FP w0 w' L T ps l q (cycF T ps l pc u bs f).1 u (cycF T ps l pc u bs f).2.1 (cycF T ps l pc u bs f).2.2 := by
  obtain ⟨b, v, vb, m, k, s⟩ := h
  refine (cycle_call W _ q L v T ps l pc u vb bs f m k s hpc hf).mono ?_
  rintro e w' ⟨rfl, st⟩
  exact ⟨rfl, FP.of b m k st⟩
theorem plen (w0 W : World) (L : Loc) (T : Tabs) (ps : List (Int × Int)) (l : List Int) (q : Nat) (pc : Int) (u : Bool) (bs : List Int) (f : Flt) (h : FP w0 W L T ps l q pc u bs f) :
    Calls Try.prog 26 #[.pointer (some ⟨q, 0, none⟩)] W fun e w' => e = .returned (.int .i64 (bs.length : Nat)) ∧ W = w' := by
  obtain ⟨b, v, vb, m, k, s⟩ := h
  obtain ⟨A, c, rfl⟩ := q_val k
  exact flen_call W _ q L.m pc u A bs.length c bs f k
theorem pnext (w0 W : World) (L : Loc) (T : Tabs) (ps : List (Int × Int)) (l : List Int) (q : Nat) (pc : Int) (u : Bool) (bs : List Int) (f : Flt) (h : FP w0 W L T ps l q pc u bs f) :
    Calls Try.prog 27 #[.pointer (some ⟨q, 0, none⟩)] W fun e w' => e = .returned (.int .u32 pc) ∧ W = w' := by
  obtain ⟨b, v, vb, m, k, s⟩ := h
  exact fnext_call W _ q L.m pc u vb bs f k
theorem pnew (w0 W : World) (L : Loc) (T : Tabs) (ps : List (Int × Int)) (l : List Int) (h : MP w0 W L T ps l) :
    Calls Try.prog 21 #[.pointer (some ⟨L.m, 0, none⟩)] W fun e w' => ∃ q, e = .returned (.pointer (some ⟨q, 0, none⟩)) ∧ FP w0 w' L T ps l q 0 false [] noF := by
  obtain ⟨b, v, m⟩ := h
  refine (fnew_call W L.m).mono ?_
  rintro e w' ⟨q, rfl, k, hb⟩
  exact ⟨q, rfl, below_step b hb, v, _, m.then hb, ⟨k.blk, Nat.le_trans b.size k.ge, own_less k.row b.size⟩, by simp [Value.ownBlock]⟩
theorem pflush (w0 W : World) (L : Loc) (T : Tabs) (ps : List (Int × Int)) (l : List Int) (q : Nat) (pc pc' : Int) (u u' : Bool) (bs : List Int) (f : Flt) (h : FP w0 W L T ps l q pc u bs f) :
    Calls Try.prog 22 #[.pointer (some ⟨q, 0, none⟩), .int .u32 pc', .bool u'] W fun e w' => e = .returned (.tuple #[]) ∧ FP w0 w' L T ps l q pc' u' [] noF := by
  obtain ⟨b, v, vb, m, k, s⟩ := h
  refine (flush_call W _ q L.m pc pc' u u' vb bs f k).mono ?_
  rintro e w' ⟨rfl, k', c⟩
  exact ⟨rfl, FP.of b m k (FStep.of (MStep.of_below m (Below.refl _ _)) k s k' (NextRow.nil _ _) (c.mono (fun i hi => .inl hi)))⟩
theorem pram {w0 W : World} {L : Loc} {T : Tabs} {ps : List (Int × Int)} {l : List Int} {q : Nat} {pc : Int} {u : Bool} {bs : List Int} {f : Flt} (h : FP w0 W L T ps l q pc u bs f) : RamAt W w0.heap.size L.r (.slice (some ⟨L.b, 0, none⟩) l.length L.c) l := by
  obtain ⟨b, v, vb, m, k, s⟩ := h
  exact m.ram
theorem pbuf (w0 W : World) (L : Loc) (T : Tabs) (l : List Int) (q : Nat) (pc : Int) (u : Bool) (bs : List Int) (f : Flt) (h : FP w0 W L T [] l q pc u bs f) :
    Calls Try.prog 33 #[.pointer (some ⟨L.m, 0, none⟩)] W fun e w' => ∃ A c, e = .returned (.slice A 0 c) ∧ FP w0 w' L T [] l q pc u bs f := by
  have h0 := h
  obtain ⟨b, v, vb, m, k, s⟩ := h
  refine (mbuf_call W _ L v T [] l m).mono ?_
  rintro e w' ⟨A, c, rfl, _, hb⟩
  exact ⟨A, c, rfl, h0.then hb⟩
end Go.Proofs.Ytiogbgjeimdgmaa.MmuWalk
