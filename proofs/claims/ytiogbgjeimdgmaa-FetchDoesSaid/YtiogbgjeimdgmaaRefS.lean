/- The fetch queue beside both MMUs. -/
import Derived.Test.YtiogbgjeimdgmaaRefP
import Derived.Test.YtiogbgjeimdgmaaFetH
namespace Go.Proofs.Ytiogbgjeimdgmaa.RefWalk
open Go.RowKit Go.Proofs.Ytiogbgjeimdgmaa.Aid Go.Proofs.YtiogbgjeimdgmaaW.PrintWords Go.Proofs.YtiogbgjeimdgmaaW.PrintLast Go.Proofs.YtiogbgjeimdgmaaW.PrintMore
open Go.Proofs.Ytiogbgjeimdgmaa.MmuWalk (Chg R32 Flt fltV noF flt infoF Tabs row_ty own_keep two_ty box1 row_then foot mine MmuAt MStep NextRow mTy noT foot_ge1 QAt FStep qfoot qfoot_ge cycF goodF q_ne_ty q_row_ne peekF findF cycle_call take_have take_nil take_none flush_call fnew_call flen_call fnext_call q_val)
open Go.Proofs.Ytiogbgjeimdgmaa.RamWalk (Bytes leN own_cell putL)
open Go.Proofs.Ytiogbgjeimdgmaa.TlbWalk (RefAt own_then own_val own_some dropP)
set_option linter.unusedVariables false
set_option linter.unusedSimpArgs false
/-- The blocks of both MMUs. -/
def both (L R : LocR) (v vp ve : Value) (i : Nat) : Prop := mine L v i ∨ rmine R vp ve i
structure FU (w0 WF : World) (F : Nat → Prop) (W : World) (L R : LocR) (v vp ve : Value) (T : Tabs) (ps : List (Int × Int)) (l : List Int) (T' : Tabs) (pl : Bool) (qs : List (Int × Int)) (k : List Int) (q : Nat) (vb : Value) (pc : Int) (u : Bool) (bs : List Int) (f : Flt) : Prop where
  du : DU w0 WF F W L R v vp ve T ps l T' pl qs k
  qa : QAt W w0.heap.size q L.m pc u vb bs f
  dq : ∀ i, qfoot q vb i → ¬ both L R v vp ve i
  df : ∀ i, F i → ¬ qfoot q vb i
section
variable {w0 WF W W' : World} {F : Nat → Prop} {L R : LocR} {v vp ve : Value} {T T' : Tabs} {ps qs : List (Int × Int)} {l k : List Int} {pl : Bool} {q : Nat} {vb : Value} {pc : Int} {u : Bool} {bs : List Int} {f : Flt}
theorem FU.then (h : FU w0 WF F W L R v vp ve T ps l T' pl qs k q vb pc u bs f) (b : Below W.heap.size W W') : FU w0 WF F W' L R v vp ve T ps l T' pl qs k q vb pc u bs f :=
  ⟨h.du.then b, h.qa.then b, h.dq, h.df⟩
theorem FU.sep (h : FU w0 WF F W L R v vp ve T ps l T' pl qs k q vb pc u bs f) : vb.ownBlock ≠ some L.b := fun e => h.dq L.b (.inr e.symm) (.inl (.inl (.inr (.inr (.inl rfl)))))
/-- The queue and the MMU below it go on. -/
theorem FU.step {pc' : Int} {u' : Bool} {bs' : List Int} {f' : Flt} (h : FU w0 WF F W L R v vp ve T ps l T' pl qs k q vb pc u bs f) (s : FStep W W' w0.heap.size L v T ps l q vb pc' u' bs' f') :
    ∃ v' vb', FU w0 WF F W' L R v' vp ve T ps l T' pl qs k q vb' pc' u' bs' f' := by
  obtain ⟨v', vb', m', n, q', nb, sep', c⟩ := s
  refine ⟨v', vb', ⟨c.below h.du.below (fun i f => ?_), m', h.du.r.keep (fun i g => c.block i (rmine_lt h.du.r i g) (fun e => ?_)), fun i f g => h.du.dis i (mine_of n i (rmine_lt h.du.r i g) f) g, fun i hi => ?_⟩, q', fun i hq hb => ?_, fun i hi hq => ?_⟩
  · rcases f with f | f
    · exact foot_ge1 h.du.m i f
    · exact qfoot_ge h.qa i f
  · rcases e with e | e
    · exact h.du.dis i (.inl e) g
    · exact h.dq i e (.inr g)
  · obtain ⟨a1, a2, a3, a4⟩ := h.du.fr i hi
    refine ⟨a1, (c.block i (h.du.lt hi) (fun e => ?_)).trans a2, fun f => a3 (mine_of n i (h.du.lt hi) f), a4⟩
    rcases e with e | e
    · exact a3 (.inl e)
    · exact h.df i hi e
  · rcases hb with hb | hb
    · rcases hq with rfl | hq
      · exact q_ne_ty q' m' i hb rfl
      · exact q_row_ne q' m' sep' i hb hq.symm
    · rcases hq with rfl | hq
      · exact h.dq i (.inl rfl) (.inr hb)
      · rcases nb i hq.symm with e | e
        · exact h.dq i (.inr e.symm) (.inr hb)
        · have := rmine_lt h.du.r i hb; omega
  · rcases hq with rfl | hq
    · exact h.df i hi (.inl rfl)
    · rcases nb i hq.symm with e | e
      · exact h.df i hi (.inr e.symm)
      · have := h.du.lt hi; omega
theorem FU.qstep {pc' : Int} {u' : Bool} {vb' : Value} {bs' : List Int} {f' : Flt} (h : FU w0 WF F W L R v vp ve T ps l T' pl qs k q vb pc u bs f) (q' : QAt W' w0.heap.size q L.m pc' u' vb' bs' f') (n : NextRow W vb vb') (c : Chg (qfoot q vb) W W') :
    ∃ v' vb', FU w0 WF F W' L R v' vp ve T ps l T' pl qs k q vb' pc' u' bs' f' :=
  h.step (FStep.of (MStep.of_below h.du.m (Below.refl _ _)) h.qa h.sep q' n c)
theorem FU.lt (h : FU w0 WF F W L R v vp ve T ps l T' pl qs k q vb pc u bs f) (i : Nat) (b : both L R v vp ve i ∨ qfoot q vb i) : i < W.heap.size := by
  rcases b with (b | b) | (rfl | b)
  · exact Go.Proofs.Ytiogbgjeimdgmaa.MmuWalk.mine_lt' h.du.m i b
  · exact rmine_lt h.du.r i b
  · exact h.qa.lt
  · exact (h.qa.rowlt i b.symm).2.1
theorem FU.outF (h : FU w0 WF F W L R v vp ve T ps l T' pl qs k q vb pc u bs f) : FU w0 w0 (fun _ => False) W L R v vp ve T ps l T' pl qs k q vb pc u bs f :=
  ⟨⟨h.du.below, h.du.m, h.du.r, h.du.dis, fun i hi => hi.elim⟩, h.qa, h.dq, fun i hi => hi.elim⟩
theorem fu_cycle (h : FU w0 WF F W L R v vp ve T ps l T' pl qs k q vb pc u bs f) (hpc : R32 pc) (hf : goodF f) :
    Calls Try.prog 23 #[.pointer (some ⟨q, 0, none⟩)] W fun e w' => e = .returned (.tuple #[]) ∧ ∃ v' vb', FU w0 WF F w' L R v' vp ve T ps l T' pl qs k q vb' (cycF T ps l pc u bs f).1 u (cycF T ps l pc u bs f).2.1 (cycF T ps l pc u bs f).2.2 :=
  (cycle_call W _ q L v T ps l pc u vb bs f h.du.m h.qa h.sep hpc hf).mono fun e w' k => ⟨k.1, h.step k.2⟩
theorem fu_have (n : Nat) (h : FU w0 WF F W L R v vp ve T ps l T' pl qs k q vb pc u bs f) (hn : n ≤ bs.length) (hl : bs.length ≤ 16) :
    Calls Try.prog 25 #[.pointer (some ⟨q, 0, none⟩), .int .i64 n] W fun e w' => ∃ A1 c1, e = .returned (.tuple #[.slice A1 n c1, .agg #[.int .i64 0, .int .u32 0, .int .u32 0], .bool true]) ∧ w'.ownsRow W.heap.size 5 1 (.slice A1 n c1) n (nums .u8 (bs.take n)) ∧ ∃ v' vb', FU w0 WF F w' L R v' vp ve T ps l T' pl qs k q vb' pc u (bs.drop n) f := by
  rcases h.qa.row.2 with ⟨hv, hz⟩ | ⟨b2, c2, cur, hv, _⟩
  · subst hv
    obtain rfl : bs = [] := List.eq_nil_of_length_eq_zero hz
    obtain rfl : n = 0 := by simpa using hn
    refine (take_nil W _ q L.m pc u f h.qa).mono ?_
    rintro e w' ⟨rfl, q', c⟩
    exact ⟨none, 0, rfl, World.ownsRow_nil _ _ _ _, h.qstep q' (NextRow.same _ _) (c.mono (fun i hi => .inl hi))⟩
  · subst hv
    refine (take_have W _ q L.m pc u _ c2 n bs f h.qa hn (by omega) hl).mono ?_
    rintro e w' ⟨b1, c1, v2, rfl, o, q', n2, c⟩
    exact ⟨some ⟨b1, 0, none⟩, c1, rfl, o, h.qstep q' n2 (c.mono (fun i hi => .inl hi))⟩
theorem fu_none (m : Int) (h : FU w0 WF F W L R v vp ve T ps l T' pl qs k q vb pc u bs f) (hn : ¬ m ≤ bs.length) (h16 : m ≤ 16) :
    Calls Try.prog 25 #[.pointer (some ⟨q, 0, none⟩), .int .i64 m] W fun e w' => e = .returned (.tuple #[.slice none 0 0, .agg #[.int .i64 f.1, .int .u32 f.2.1, .int .u32 f.2.2], .bool (f.1 != 0)]) ∧ Below W.heap.size W w' := by
  obtain ⟨A, c, rfl⟩ := q_val h.qa
  obtain ⟨fk, fv, fi⟩ := f
  exact take_none W _ q L.m pc fk fv fi u A c bs.length m bs h.qa hn h16
theorem fu_flush (pc' : Int) (u' : Bool) (h : FU w0 WF F W L R v vp ve T ps l T' pl qs k q vb pc u bs f) :
    Calls Try.prog 22 #[.pointer (some ⟨q, 0, none⟩), .int .u32 pc', .bool u'] W fun e w' => e = .returned (.tuple #[]) ∧ ∃ v' vb', FU w0 WF F w' L R v' vp ve T ps l T' pl qs k q vb' pc' u' [] noF :=
  (flush_call W _ q L.m pc pc' u u' vb bs f h.qa).mono fun e w' k => ⟨k.1, h.qstep k.2.1 (NextRow.nil _ _) (k.2.2.mono (fun i hi => .inl hi))⟩
theorem fu_new (d : DU w0 WF F W L R v vp ve T ps l T' pl qs k) (hw : w0.heap.size ≤ W.heap.size) :
    Calls Try.prog 21 #[.pointer (some ⟨L.m, 0, none⟩)] W fun e w' => ∃ q, e = .returned (.pointer (some ⟨q, 0, none⟩)) ∧ W.heap.size ≤ q ∧ Below W.heap.size W w' ∧ FU w0 WF F w' L R v vp ve T ps l T' pl qs k q (.slice none 0 0) 0 false [] noF := by
  refine (fnew_call W L.m).mono ?_
  rintro e w' ⟨q, rfl, qa, b⟩
  have hq : ∀ i, qfoot q (.slice none 0 0) i → W.heap.size ≤ i := fun i hi => by
    rcases hi with rfl | hi
    · exact qa.ge
    · simp [Value.ownBlock] at hi
  refine ⟨q, rfl, qa.ge, b, d.then b, ⟨qa.blk, Nat.le_trans hw qa.ge, World.ownsRow_nil _ _ _ _⟩, fun i hi hb => ?_, fun i hi g => ?_⟩
  · have := hq i hi
    rcases hb with hb | hb
    · have := Go.Proofs.Ytiogbgjeimdgmaa.MmuWalk.mine_lt' d.m i hb; omega
    · have := rmine_lt d.r i hb; omega
  · have := hq i g
    have := d.lt hi
    omega
end
end Go.Proofs.Ytiogbgjeimdgmaa.RefWalk
