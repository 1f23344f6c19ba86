/- The fetch queue of layer 21, walked: New, Flush, Len, Next. -/
import Derived.Test.YtiogbgjeimdgmaaGMmb
import Derived.Laws.StructEq
namespace Go.Proofs.Ytiogbgjeimdgmaa.MmuWalk
open Go.RowKit Go.Proofs.Ytiogbgjeimdgmaa.Aid Go.Proofs.YtiogbgjeimdgmaaW.PrintWords Go.Proofs.YtiogbgjeimdgmaaW.PrintLast Go.Proofs.YtiogbgjeimdgmaaW.PrintMore
open Go.Proofs.Ytiogbgjeimdgmaa.RamWalk (RamAt Bytes leN)
open Go.Proofs.Ytiogbgjeimdgmaa.TlbWalk (TlbAt Kept2 putP dropP posP entP nil2)
attribute [local go_sem] max2_int min2_int max_two min_two max_three min_three max_four min_four   -- for this text's walks alone
set_option linter.unusedVariables false
set_option linter.unusedSimpArgs false
def qCells (m : Nat) (pc : Int) (u : Bool) (vb : Value) (f : Flt) : Array Value := #[.pointer (some ⟨m, 0, none⟩), .int .u32 pc, .bool u, vb, .int .i64 f.1, .int .u32 f.2.1, .int .u32 f.2.2]
/-- A queue in memory: its block, the bytes that it owns. -/
structure QAt (W : World) (base q m : Nat) (pc : Int) (u : Bool) (vb : Value) (bs : List Int) (f : Flt) : Prop where
  blk : W.heap[q]? = some (.cells (qCells m pc u vb f) 109 (0, 0))
  ge : base ≤ q
  row : W.ownsRow base 5 1 vb bs.length (nums .u8 bs)
theorem QAt.lt {W : World} {base q m : Nat} {pc : Int} {u : Bool} {vb : Value} {bs : List Int} {f : Flt} (h : QAt W base q m pc u vb bs f) : q < W.heap.size := (Array.getElem?_eq_some_iff.1 h.blk).1
theorem QAt.cell {W : World} {base q m : Nat} {pc : Int} {u : Bool} {vb : Value} {bs : List Int} {f : Flt} (h : QAt W base q m pc u vb bs f) (j : Nat) : W.cell? ⟨q, j, none⟩ = (qCells m pc u vb f)[j]? := cell_of_row W q j _ _ _ h.blk
theorem QAt.free {W : World} {base q m : Nat} {pc : Int} {u : Bool} {vb : Value} {bs : List Int} {f : Flt} (h : QAt W base q m pc u vb bs f) (j : Nat) : W.frozen? ⟨q, j, none⟩ = false := frozen_of_row W q j _ _ h.blk
theorem QAt.keep {W W' : World} {base q m : Nat} {pc : Int} {u : Bool} {vb : Value} {bs : List Int} {f : Flt} (h : QAt W base q m pc u vb bs f) (k : ∀ i, (i = q ∨ some i = vb.ownBlock) → W'.heap[i]? = W.heap[i]?) : QAt W' base q m pc u vb bs f :=
  ⟨(k q (.inl rfl)).trans h.blk, h.ge, own_keep h.row (fun i hi => k i (.inr hi.symm))⟩
theorem QAt.rowlt {W : World} {base q m : Nat} {pc : Int} {u : Bool} {vb : Value} {bs : List Int} {f : Flt} (h : QAt W base q m pc u vb bs f) (i : Nat) (hi : vb.ownBlock = some i) : base ≤ i ∧ i < W.heap.size ∧ i ≠ q := by
  rcases h.row.2 with ⟨rfl, _⟩ | ⟨b, c, cur, rfl, hb, hh, _⟩
  · simp [Value.ownBlock] at hi
  · simp only [Value.ownBlock, Option.some.injEq] at hi
    subst hi
    refine ⟨hb, (Array.getElem?_eq_some_iff.1 hh).1, ?_⟩
    rintro rfl
    have := h.blk
    rw [this] at hh
    simp at hh
theorem QAt.then {W W' : World} {base q m : Nat} {pc : Int} {u : Bool} {vb : Value} {bs : List Int} {f : Flt} (h : QAt W base q m pc u vb bs f) (k : Below W.heap.size W W') : QAt W' base q m pc u vb bs f :=
  h.keep fun i hi => k.block i (by
    rcases hi with rfl | hi
    · exact h.lt
    · exact (h.rowlt i hi.symm).2.1)
theorem fnew_call (w : World) (m : Nat) : Calls Try.prog 21 #[.pointer (some ⟨m, 0, none⟩)] w fun e w' => ∃ q, e = .returned (.pointer (some ⟨q, 0, none⟩)) ∧ QAt w' w.heap.size q m 0 false (.slice none 0 0) [] noF ∧ Below w.heap.size w w' := by
  go_enter Try.func21, Try.ntmps21
  go_wp2
  go_ret
  exact ⟨_, rfl, ⟨blk_new _ _, Nat.le_refl _, World.ownsRow_nil _ _ _ _⟩, below_alloc (Below.refl _ _) _⟩
theorem flen_call (w : World) (base q m : Nat) (pc : Int) (u : Bool) (A : Option Addr) (n c : Nat) (bs : List Int) (f : Flt) (h : QAt w base q m pc u (.slice A n c) bs f) : Calls Try.prog 26 #[.pointer (some ⟨q, 0, none⟩)] w fun e w' => e = .returned (.int .i64 n) ∧ w = w' := by
  have c3 : w.cell? ⟨q, 3, none⟩ = some (.slice A n c) := h.cell 3
  clear h
  go_enter Try.func26, Try.ntmps26
  go_wp2
  go_ret
  exact ⟨rfl, rfl⟩
theorem fnext_call (w : World) (base q m : Nat) (pc : Int) (u : Bool) (vb : Value) (bs : List Int) (f : Flt) (h : QAt w base q m pc u vb bs f) : Calls Try.prog 27 #[.pointer (some ⟨q, 0, none⟩)] w fun e w' => e = .returned (.int .u32 pc) ∧ w = w' := by
  have c1 : w.cell? ⟨q, 1, none⟩ = some (.int .u32 pc) := h.cell 1
  clear h
  go_enter Try.func27, Try.ntmps27
  go_wp2
  go_ret
  exact ⟨rfl, rfl⟩
/-- A queue's blocks. -/
def qfoot (q : Nat) (vb : Value) (i : Nat) : Prop := i = q ∨ some i = vb.ownBlock
theorem q_put {W : World} {base q m : Nat} {pc pc' : Int} {u u' : Bool} {vb : Value} {bs : List Int} {f f' : Flt} (h : QAt W base q m pc u vb bs f) (j : Nat) (x : Value)
    (hb : (W.setCell ⟨q, j, none⟩ x).heap[q]? = some (.cells (qCells m pc' u' vb f') 109 (0, 0))) : QAt (W.setCell ⟨q, j, none⟩ x) base q m pc' u' vb bs f' ∧ Chg (fun i => i = q) W (W.setCell ⟨q, j, none⟩ x) := by
  have e : ∀ i, i ≠ q → (W.setCell ⟨q, j, none⟩ x).heap[i]? = W.heap[i]? := fun i hi => Below.heap_setCell W ⟨q, j, none⟩ _ i hi
  exact ⟨⟨hb, h.ge, own_keep h.row (fun i hi => e i (h.rowlt i hi).2.2)⟩, ⟨rfl, rfl, rfl, by simp [World.setCell], fun i hi hf => e i hf⟩⟩
end Go.Proofs.Ytiogbgjeimdgmaa.MmuWalk
/- The fetch queue's Flush and Cycle, walked. -/
namespace Go.Proofs.Ytiogbgjeimdgmaa.MmuWalk
open Go.RowKit Go.Proofs.Ytiogbgjeimdgmaa.Aid Go.Proofs.YtiogbgjeimdgmaaW.PrintWords Go.Proofs.YtiogbgjeimdgmaaW.PrintLast Go.Proofs.YtiogbgjeimdgmaaW.PrintMore
open Go.Proofs.Ytiogbgjeimdgmaa.RamWalk (RamAt Bytes leN)
open Go.Proofs.Ytiogbgjeimdgmaa.TlbWalk (TlbAt Kept2 putP dropP posP entP nil2)
attribute [local go_sem] max2_int min2_int max_two min_two max_three min_three max_four min_four   -- for this text's walks alone
set_option linter.unusedVariables false
set_option linter.unusedSimpArgs false
theorem flush_end {W : World} {base q m : Nat} {pc : Int} {u : Bool} {vb : Value} {bs : List Int} {f : Flt} (h : QAt W base q m pc u vb bs f) (pc' : Int) (u' : Bool) :
    QAt ((((((W.setCell ⟨q, 1, none⟩ (.int .u32 pc')).setCell ⟨q, 2, none⟩ (.bool u')).setCell ⟨q, 3, none⟩ (.slice none 0 0)).setCell ⟨q, 4, none⟩ (.int .i64 0)).setCell ⟨q, 5, none⟩ (.int .u32 0)).setCell ⟨q, 6, none⟩ (.int .u32 0)) base q m pc' u' (.slice none 0 0) [] noF ∧
    Chg (fun i => i = q) W ((((((W.setCell ⟨q, 1, none⟩ (.int .u32 pc')).setCell ⟨q, 2, none⟩ (.bool u')).setCell ⟨q, 3, none⟩ (.slice none 0 0)).setCell ⟨q, 4, none⟩ (.int .i64 0)).setCell ⟨q, 5, none⟩ (.int .u32 0)).setCell ⟨q, 6, none⟩ (.int .u32 0)) := by
  obtain ⟨m1, k1⟩ := q_put h (pc' := pc') (u' := u) (f' := f) 1 (.int .u32 pc') (blk_put h.blk 1 _ rfl)
  generalize W.setCell ⟨q, 1, none⟩ (.int .u32 pc') = W1 at *
  obtain ⟨m2, k2⟩ := q_put m1 (pc' := pc') (u' := u') (f' := f) 2 (.bool u') (blk_put m1.blk 2 _ rfl)
  generalize W1.setCell ⟨q, 2, none⟩ (.bool u') = W2 at *
  have m3 : QAt (W2.setCell ⟨q, 3, none⟩ (.slice none 0 0)) base q m pc' u' (.slice none 0 0) [] f := ⟨blk_put m2.blk 3 _ rfl, h.ge, World.ownsRow_nil _ _ _ _⟩
  have k3 : Chg (fun i => i = q) W2 (W2.setCell ⟨q, 3, none⟩ (.slice none 0 0)) := ⟨rfl, rfl, rfl, by simp [World.setCell], fun i hi hf => Below.heap_setCell W2 ⟨q, 3, none⟩ _ i hf⟩
  generalize W2.setCell ⟨q, 3, none⟩ (.slice none 0 0) = W3 at *
  obtain ⟨m4, k4⟩ := q_put m3 (pc' := pc') (u' := u') (f' := (0, f.2.1, f.2.2)) 4 (.int .i64 0) (blk_put m3.blk 4 _ rfl)
  generalize W3.setCell ⟨q, 4, none⟩ (.int .i64 0) = W4 at *
  obtain ⟨m5, k5⟩ := q_put m4 (pc' := pc') (u' := u') (f' := (0, 0, f.2.2)) 5 (.int .u32 0) (blk_put m4.blk 5 _ rfl)
  generalize W4.setCell ⟨q, 5, none⟩ (.int .u32 0) = W5 at *
  obtain ⟨m6, k6⟩ := q_put m5 (pc' := pc') (u' := u') (f' := noF) 6 (.int .u32 0) (blk_put m5.blk 6 _ rfl)
  generalize W5.setCell ⟨q, 6, none⟩ (.int .u32 0) = W6 at *
  exact ⟨m6, ((((k1.trans k2 (fun i _ h => h)).trans k3 (fun i _ h => h)).trans k4 (fun i _ h => h)).trans k5 (fun i _ h => h)).trans k6 (fun i _ h => h)⟩
set_option maxRecDepth 100000 in
theorem flush_call (w : World) (base q m : Nat) (pc pc' : Int) (u u' : Bool) (vb : Value) (bs : List Int) (f : Flt) (h : QAt w base q m pc u vb bs f) :
    Calls Try.prog 22 #[.pointer (some ⟨q, 0, none⟩), .int .u32 pc', .bool u'] w fun e w' => e = .returned (.tuple #[]) ∧ QAt w' base q m pc' u' (.slice none 0 0) [] noF ∧ Chg (fun i => i = q) w w' := by
  have FE := Aside0.mk (flush_end h pc' u')
  have c1 := h.cell 1
  have c2 := h.cell 2
  have c3 := h.cell 3
  have c4 := h.cell 4
  have c5 := h.cell 5
  have c6 := h.cell 6
  have f1 := h.free 1
  have f2 := h.free 2
  have f3 := h.free 3
  have f4 := h.free 4
  have f5 := h.free 5
  have f6 := h.free 6
  simp only [qCells, List.getElem?_toArray, List.getElem?_cons_zero, List.getElem?_cons_succ] at c1 c2 c3 c4 c5 c6
  clear h
  go_enter Try.func22, Try.ntmps22
  go_wp2
  first | go_end0 | refine bodyPost_ret (results_none rfl _ _ _) rfl ?_
  exact ⟨rfl, FE.out⟩
set_option maxRecDepth 100000 in
theorem cycle_full (w : World) (base q m : Nat) (pc : Int) (u : Bool) (A : Option Addr) (n c : Nat) (bs : List Int) (f : Flt) (h : QAt w base q m pc u (.slice A n c) bs f) (hn : 16 ≤ n) :
    Calls Try.prog 23 #[.pointer (some ⟨q, 0, none⟩)] w fun e w' => e = .returned (.tuple #[]) ∧ w = w' := by
  have c3 : w.cell? ⟨q, 3, none⟩ = some (.slice A n c) := h.cell 3
  have hn' : (16 : Int) ≤ n := by omega
  clear h
  go_enter Try.func23, Try.ntmps23
  go_wp2
  first | go_end0 | refine bodyPost_ret (results_none rfl _ _ _) rfl ?_
  exact ⟨rfl, rfl⟩
set_option maxRecDepth 100000 in
theorem cycle_stop (w : World) (base q m : Nat) (pc fk fv fi : Int) (u : Bool) (A : Option Addr) (n c : Nat) (bs : List Int) (h : QAt w base q m pc u (.slice A n c) bs (fk, fv, fi)) (hn : n < 16) (hf : (fk == 0) = false) :
    Calls Try.prog 23 #[.pointer (some ⟨q, 0, none⟩)] w fun e w' => e = .returned (.tuple #[]) ∧ w = w' := by
  have c3 : w.cell? ⟨q, 3, none⟩ = some (.slice A n c) := h.cell 3
  have c4 : w.cell? ⟨q, 4, none⟩ = some (.int .i64 fk) := h.cell 4
  have c5 : w.cell? ⟨q, 5, none⟩ = some (.int .u32 fv) := h.cell 5
  have c6 : w.cell? ⟨q, 6, none⟩ = some (.int .u32 fi) := h.cell 6
  have hn' : ¬ (16 : Int) ≤ n := by omega
  clear h
  go_enter Try.func23, Try.ntmps23
  go_wp2
  first | go_end0 | refine bodyPost_ret (results_none rfl _ _ _) rfl ?_
  exact ⟨rfl, rfl⟩
end Go.Proofs.Ytiogbgjeimdgmaa.MmuWalk
/- The fetch queue's Cycle, walked: a byte more, or a fault. -/
namespace Go.Proofs.Ytiogbgjeimdgmaa.MmuWalk
open Go.RowKit Go.Proofs.Ytiogbgjeimdgmaa.Aid Go.Proofs.YtiogbgjeimdgmaaW.PrintWords Go.Proofs.YtiogbgjeimdgmaaW.PrintLast Go.Proofs.YtiogbgjeimdgmaaW.PrintMore
open Go.Proofs.Ytiogbgjeimdgmaa.RamWalk (RamAt Bytes leN)
open Go.Proofs.Ytiogbgjeimdgmaa.TlbWalk (TlbAt Kept2 putP dropP posP entP nil2)
attribute [local go_sem] max2_int min2_int max_two min_two max_three min_three max_four min_four   -- for this text's walks alone
set_option linter.unusedVariables false
set_option linter.unusedSimpArgs false
theorem q_ne_ty {W : World} {base q m : Nat} {pc : Int} {u : Bool} {vb : Value} {bs : List Int} {f : Flt} (h : QAt W base q m pc u vb bs f) {base' : Nat} {L : Loc} {v : Value} {T : Tabs} {ps : List (Int × Int)} {l : List Int} (k : MmuAt W base' L v T ps l) (i : Nat) (hi : mine L v i) : i ≠ q := k.ne_ty h.blk (by unfold mTy; decide) i hi
theorem q_row_ne {W : World} {base q m : Nat} {pc : Int} {u : Bool} {vb : Value} {bs : List Int} {f : Flt} (h : QAt W base q m pc u vb bs f) {base' : Nat} {L : Loc} {v : Value} {T : Tabs} {ps : List (Int × Int)} {l : List Int} (k : MmuAt W base' L v T ps l) (sep : vb.ownBlock ≠ some L.b) (i : Nat) (hi : mine L v i) : vb.ownBlock ≠ some i := by
  intro e
  rcases h.row.2 with ⟨rfl, _⟩ | ⟨b, c, cur, rfl, hb, hh, _⟩
  · simp [Value.ownBlock] at e
  · simp only [Value.ownBlock, Option.some.injEq] at e
    subst e
    rcases hi with (hi | hi | hi | hi) | hi
    · rw [hi, k.blk] at hh; simp at hh
    · rw [hi, k.tlb.1] at hh; simp at hh
    · exact sep (by rw [← hi]; rfl)
    · rcases k.tlb.2.2.1.2 with ⟨rfl, _⟩ | ⟨b', c', cur', rfl, _, hh', _⟩
      · simp [Value.ownBlock] at hi
      · simp only [Value.ownBlock, Option.some.injEq] at hi
        subst hi
        rw [hh] at hh'; simp at hh'
    · rw [hi, k.ram.1] at hh; simp at hh
/-- The queue stays where the MMU alone is turned. -/
theorem QAt.mstep {W W' : World} {base q m : Nat} {pc : Int} {u : Bool} {vb : Value} {bs : List Int} {f : Flt} (h : QAt W base q m pc u vb bs f) {L : Loc} {v : Value} {T T' : Tabs} {ps ps' : List (Int × Int)} {l l' : List Int} (k : MmuAt W base L v T ps l) (sep : vb.ownBlock ≠ some L.b) (s : MStep W W' base L v T' ps' l') : QAt W' base q m pc u vb bs f :=
  h.keep fun i hi => s.chg.block i (by
    rcases hi with rfl | hi
    · exact h.lt
    · exact (h.rowlt i hi.symm).2.1) (fun c => by
    rcases hi with hi | hi
    · exact q_ne_ty h k i (.inl c) hi
    · exact q_row_ne h k sep i (.inl c) hi.symm)
/-- What a call leaves of an MMU and of a queue over it. -/
def FStep (w w' : World) (base : Nat) (L : Loc) (v : Value) (T : Tabs) (ps : List (Int × Int)) (l : List Int) (q : Nat) (vb : Value) (pc' : Int) (u' : Bool) (bs' : List Int) (f' : Flt) : Prop :=
  ∃ v' vb', MmuAt w' base L v' T ps l ∧ NextRow w v v' ∧ QAt w' base q L.m pc' u' vb' bs' f' ∧ NextRow w vb vb' ∧ vb'.ownBlock ≠ some L.b ∧ Chg (fun i => foot L v i ∨ qfoot q vb i) w w'
theorem mine_lt {W : World} {base : Nat} {L : Loc} {v : Value} {T : Tabs} {ps : List (Int × Int)} {l : List Int} (h : MmuAt W base L v T ps l) (i : Nat) (k : mine L v i) : i < W.heap.size := by
  obtain ⟨cs, ty, h', _⟩ := h.types i k
  exact (Array.getElem?_eq_some_iff.1 h').1
theorem FStep.of {w V w' : World} {base : Nat} {L : Loc} {v : Value} {T : Tabs} {ps : List (Int × Int)} {l : List Int} {q : Nat} {vb vb' : Value} {pc pc' : Int} {u u' : Bool} {bs bs' : List Int} {f f' : Flt} (s : MStep w V base L v T ps l) (hq : QAt V base q L.m pc u vb bs f) (sep : vb.ownBlock ≠ some L.b)
    (k : QAt w' base q L.m pc' u' vb' bs' f') (n : NextRow V vb vb') (c : Chg (qfoot q vb) V w') : FStep w w' base L v T ps l q vb pc' u' bs' f' := by
  obtain ⟨⟨v1, m1, n1⟩, c1⟩ := s
  refine ⟨v1, vb', m1.keep (fun i hi => c.block i (mine_lt m1 i hi) (fun e => ?_)), n1, k, n.up c1.size, ?_, ?_⟩
  · rcases e with e | e
    · exact q_ne_ty hq m1 i hi e
    · exact q_row_ne hq m1 sep i hi e.symm
  · intro e
    rcases n _ e with e | e
    · exact sep e
    · have := mine_lt m1 L.b (.inl (.inr (.inr (.inl rfl)))); omega
  · exact (c1.mono (fun i hi => .inl hi)).trans c (fun i _ hi => .inr hi)
theorem put3_chg (W : World) (g : Nat) (x y z : Value) : Chg (fun i => i = g) W (((W.setCell ⟨g, 0, none⟩ x).setCell ⟨g, 1, none⟩ y).setCell ⟨g, 2, none⟩ z) :=
  ⟨rfl, rfl, rfl, by simp [World.setCell], fun i hi hf => (Below.heap_setCell _ ⟨g, 2, none⟩ z i hf).trans ((Below.heap_setCell _ ⟨g, 1, none⟩ y i hf).trans (Below.heap_setCell W ⟨g, 0, none⟩ x i hf))⟩
theorem q_ne_box {W : World} {base q m : Nat} {pc : Int} {u : Bool} {vb : Value} {bs : List Int} {f : Flt} (h : QAt W base q m pc u vb bs f) {g : Nat} {cs : Array Value} {fr : Nat × Nat} (hg : W.heap[g]? = some (.cells cs 47 fr)) (i : Nat) (hi : i = q ∨ some i = vb.ownBlock) : i ≠ g := by
  rintro rfl
  rcases hi with rfl | hi
  · rw [h.blk] at hg; simp at hg
  · rcases h.row.2 with ⟨rfl, _⟩ | ⟨b, c, cur, rfl, _, hh, _⟩
    · simp [Value.ownBlock] at hi
    · simp only [Value.ownBlock, Option.some.injEq] at hi
      subst hi
      rw [hg] at hh; simp at hh
/-- A fault's box, made by the call itself, is filled. -/
theorem MStep.fill {w W : World} {base : Nat} {L : Loc} {v : Value} {T : Tabs} {ps : List (Int × Int)} {l : List Int} {g : Nat} {cs0 : Array Value} {fr : Nat × Nat} (s : MStep w W base L v T ps l) (hg : w.heap.size ≤ g) (hb : W.heap[g]? = some (.cells cs0 47 fr)) (x y z : Value) : MStep w (((W.setCell ⟨g, 0, none⟩ x).setCell ⟨g, 1, none⟩ y).setCell ⟨g, 2, none⟩ z) base L v T ps l := by
  have k := put3_chg W g x y z
  obtain ⟨⟨v1, m1, n1⟩, c1⟩ := s
  exact ⟨⟨v1, m1.keep (fun i hi => k.block i (mine_lt m1 i hi) (m1.ne_ty hb (by unfold mTy; decide) i hi)), n1⟩, c1.trans k (fun i hi e => by omega)⟩
theorem QAt.fill {W : World} {base q m : Nat} {pc : Int} {u : Bool} {vb : Value} {bs : List Int} {f : Flt} (h : QAt W base q m pc u vb bs f) {g : Nat} {cs0 : Array Value} {fr : Nat × Nat} (hb : W.heap[g]? = some (.cells cs0 47 fr)) (x y z : Value) : QAt (((W.setCell ⟨g, 0, none⟩ x).setCell ⟨g, 1, none⟩ y).setCell ⟨g, 2, none⟩ z) base q m pc u vb bs f :=
  h.keep fun i hi => (put3_chg W g x y z).block i (by
    rcases hi with rfl | hi
    · exact h.lt
    · exact (h.rowlt i hi.symm).2.1) (q_ne_box h hb i hi)
theorem fill_row {W : World} {g : Nat} {a b c : Value} (h : W.heap[g]? = some (.cells #[a, b, c] 47 (0, 0))) (x y z : Value) : (((W.setCell ⟨g, 0, none⟩ x).setCell ⟨g, 1, none⟩ y).setCell ⟨g, 2, none⟩ z).heap[g]? = some (.cells #[x, y, z] 47 (0, 0)) :=
  blk_put (blk_put (blk_put h 0 x rfl) 1 y rfl) 2 z rfl
theorem q_fault {W : World} {base q m : Nat} {pc : Int} {u : Bool} {vb : Value} {bs : List Int} {f : Flt} (h : QAt W base q m pc u vb bs f) (fk fv fi : Int) :
    QAt (((W.setCell ⟨q, 4, none⟩ (.int .i64 fk)).setCell ⟨q, 5, none⟩ (.int .u32 fv)).setCell ⟨q, 6, none⟩ (.int .u32 fi)) base q m pc u vb bs (fk, fv, fi) ∧ Chg (fun i => i = q) W (((W.setCell ⟨q, 4, none⟩ (.int .i64 fk)).setCell ⟨q, 5, none⟩ (.int .u32 fv)).setCell ⟨q, 6, none⟩ (.int .u32 fi)) := by
  obtain ⟨m4, k4⟩ := q_put h (pc' := pc) (u' := u) (f' := (fk, f.2.1, f.2.2)) 4 (.int .i64 fk) (blk_put h.blk 4 _ rfl)
  generalize W.setCell ⟨q, 4, none⟩ (.int .i64 fk) = W4 at *
  obtain ⟨m5, k5⟩ := q_put m4 (pc' := pc) (u' := u) (f' := (fk, fv, f.2.2)) 5 (.int .u32 fv) (blk_put m4.blk 5 _ rfl)
  generalize W4.setCell ⟨q, 5, none⟩ (.int .u32 fv) = W5 at *
  obtain ⟨m6, k6⟩ := q_put m5 (pc' := pc) (u' := u) (f' := (fk, fv, fi)) 6 (.int .u32 fi) (blk_put m5.blk 6 _ rfl)
  exact ⟨m6, (k4.trans k5 (fun i _ h => h)).trans k6 (fun i _ h => h)⟩
/-- Behind an append: the queue's cells, and what it is when the row and the place are stored. -/
theorem q_append {W W1 : World} {base q m : Nat} {pc : Int} {u : Bool} {vb v1 : Value} {bs bs' : List Int} {f : Flt} (h : QAt W base q m pc u vb bs f) {n : Nat} (hl : bs'.length = n) (ho : W1.ownsRow base 5 1 v1 n (nums .u8 bs')) (hg : W.grownBy W1 vb.ownBlock)
    (hat : v1.ownBlock = vb.ownBlock ∨ ∃ b, v1.ownBlock = some b ∧ W.heap.size ≤ b) (pc' : Int) :
    W1.cell? ⟨q, 1, none⟩ = some (.int .u32 pc) ∧ W1.cell? ⟨q, 3, none⟩ = some vb ∧ W1.frozen? ⟨q, 1, none⟩ = false ∧ W1.frozen? ⟨q, 3, none⟩ = false ∧ (W1.setCell ⟨q, 3, none⟩ v1).cell? ⟨q, 1, none⟩ = some (.int .u32 pc) ∧
    QAt ((W1.setCell ⟨q, 3, none⟩ v1).setCell ⟨q, 1, none⟩ (.int .u32 pc')) base q m pc' u v1 bs' f ∧ NextRow W vb v1 ∧ Chg (qfoot q vb) W ((W1.setCell ⟨q, 3, none⟩ v1).setCell ⟨q, 1, none⟩ (.int .u32 pc')) := by
  subst hl
  have hne : some q ≠ vb.ownBlock := fun e => (h.rowlt q e.symm).2.2 rfl
  have hb : W1.heap[q]? = some (.cells (qCells m pc u vb f) 109 (0, 0)) := (hg.block q h.lt hne).trans h.blk
  have hv : v1.ownBlock ≠ some q := by
    intro e
    rcases hat with k | ⟨b, k, hb'⟩
    · exact hne (by rw [← k, e])
    · rw [e] at k
      simp only [Option.some.injEq] at k
      have := h.lt
      omega
  have hb3 : (W1.setCell ⟨q, 3, none⟩ v1).heap[q]? = some (.cells (qCells m pc u v1 f) 109 (0, 0)) := blk_put hb 3 v1 rfl
  have k3 : QAt (W1.setCell ⟨q, 3, none⟩ v1) base q m pc u v1 bs' f := ⟨hb3, h.ge, ownsRow_setCell_other ho hv _⟩
  obtain ⟨k1, g1⟩ := q_put k3 (pc' := pc') (u' := u) (f' := f) 1 (.int .u32 pc') (blk_put hb3 1 _ rfl)
  refine ⟨cell_of_row _ _ 1 _ _ _ hb, cell_of_row _ _ 3 _ _ _ hb, frozen_of_row _ _ 1 _ _ hb, frozen_of_row _ _ 3 _ _ hb, cell_of_row _ _ 1 _ _ _ hb3, k1, NextRow.of_or hat, ?_⟩
  have g0 : Chg (qfoot q vb) W (W1.setCell ⟨q, 3, none⟩ v1) := ⟨hg.os, hg.tape, hg.output, by simpa [World.setCell] using hg.size, fun i hi hf => (Below.heap_setCell W1 ⟨q, 3, none⟩ v1 i (fun e => hf (.inl e))).trans (hg.block i hi (fun e => hf (.inr e)))⟩
  exact g0.trans g1 (fun i _ e => .inl e)
theorem infoB : (Try.prog.info? 5).map (fun i => (i.zero, i.size, i.bytes)) = some (some (.int .u8 0), 1, 1) := by kernel_rfl
set_option maxRecDepth 100000 in
set_option maxHeartbeats 4000000 in
theorem cycle_flt (w : World) (base q : Nat) (L : Loc) (v : Value) (T : Tabs) (ps : List (Int × Int)) (l : List Int) (pc : Int) (u : Bool) (A : Option Addr) (c : Nat) (bs : List Int) (hm : MmuAt w base L v T ps l) (h : QAt w base q L.m pc u (.slice A bs.length c) bs noF)
    (hn : bs.length < 16) (sep : (Value.slice A bs.length c).ownBlock ≠ some L.b) (fk fv fi : Int) (hk : (fk == 0) = false)
    (PK : Aside0 (∀ W v', MmuAt W base L v' T ps l → Calls Try.prog 32 #[.pointer (some ⟨L.m, 0, none⟩), .int .u32 pc, .bool u] W fun e w' => e = .returned (.tuple #[.int .u8 0, .agg #[.int .i64 fk, .int .u32 fv, .int .u32 fi]]) ∧ MStep W w' base L v' T ps l)) :
    Calls Try.prog 23 #[.pointer (some ⟨q, 0, none⟩)] w fun e w' => e = .returned (.tuple #[]) ∧ FStep w w' base L v T ps l q (.slice A bs.length c) pc u bs (fk, fv, fi) := by
  have c3 : w.cell? ⟨q, 3, none⟩ = some (.slice A bs.length c) := h.cell 3
  have c4 : w.cell? ⟨q, 4, none⟩ = some (.int .i64 0) := h.cell 4
  have c5 : w.cell? ⟨q, 5, none⟩ = some (.int .u32 0) := h.cell 5
  have c6 : w.cell? ⟨q, 6, none⟩ = some (.int .u32 0) := h.cell 6
  have hn' : ¬ (16 : Int) ≤ bs.length := by omega
  have hS : Aside0 (∀ W, Below w.heap.size w W → W.cell? ⟨q, 0, none⟩ = some (.pointer (some ⟨L.m, 0, none⟩)) ∧ W.cell? ⟨q, 1, none⟩ = some (.int .u32 pc) ∧ W.cell? ⟨q, 2, none⟩ = some (.bool u)) := ⟨fun W hW => ⟨(h.then hW).cell 0, (h.then hW).cell 1, (h.then hW).cell 2⟩⟩
  have M := Aside0.mk hm
  have Q := Aside0.mk h
  have SEP := Aside0.mk sep
  have HN := Aside0.mk hn
  have hS0 := hS.out w (Below.refl _ _)
  clear h hm sep
  go_enter Try.func23, Try.ntmps23
  go_wp2
  go_region_held3 (fun W => W.cell? ⟨q, 0, none⟩ = some (.pointer (some ⟨L.m, 0, none⟩)) ∧ W.cell? ⟨q, 1, none⟩ = some (.int .u32 pc) ∧ W.cell? ⟨q, 2, none⟩ = some (.bool u))
    (first | exact hS.out _ (by assumption) | exact hS.out _ ((Below.refl _ _).drew) | exact hS.out _ (below_alloc ((Below.refl _ _).drew) _) | exact hS.out _ ((below_alloc (Below.refl _ _) _).drew) | exact hS2.out _ (Below.refl _ _) | exact hS2.out _ (below_alloc (Below.refl _ _) _) | exact hS4.out)
    (first
    | (go_at_call 32; (with_reducible refine (PK.out _ _ (M.out.then ((Below.refl _ _).drew))).mono ?_); rintro e w1 ⟨rfl, s⟩; have S1 := Aside0.mk (MStep.after ((Below.refl _ _).drew) s); have Q1 := Aside0.mk (Q.out.mstep M.out SEP.out S1.out); have hS2 : Aside0 (∀ W, Below w1.heap.size w1 W → W.cell? ⟨q, 0, none⟩ = some (.pointer (some ⟨L.m, 0, none⟩)) ∧ W.cell? ⟨q, 1, none⟩ = some (.int .u32 pc) ∧ W.cell? ⟨q, 2, none⟩ = some (.bool u)) := ⟨fun W hW => ⟨(Q1.out.then hW).cell 0, (Q1.out.then hW).cell 1, (Q1.out.then hW).cell 2⟩⟩; clear s)
    | (go_at_call 32; (with_reducible refine (PK.out _ _ (M.out.then ((below_alloc (Below.refl _ _) _).drew))).mono ?_); rintro e w1 ⟨rfl, s⟩; have S1 := Aside0.mk (MStep.after ((below_alloc (Below.refl _ _) _).drew) s); have Q1 := Aside0.mk (Q.out.mstep M.out SEP.out S1.out); have hS2 : Aside0 (∀ W, Below w1.heap.size w1 W → W.cell? ⟨q, 0, none⟩ = some (.pointer (some ⟨L.m, 0, none⟩)) ∧ W.cell? ⟨q, 1, none⟩ = some (.int .u32 pc) ∧ W.cell? ⟨q, 2, none⟩ = some (.bool u)) := ⟨fun W hW => ⟨(Q1.out.then hW).cell 0, (Q1.out.then hW).cell 1, (Q1.out.then hW).cell 2⟩⟩; have X1 := Aside0.mk (box_keep M.out (V := (w.alloc (.cells #[.int .i64 0, .int .u32 0, .int .u32 0] 47 (0, 0))).drew) (heap_alloc_new w _) (Nat.le_refl _) s); have y0 := cell_of_row _ _ 0 _ _ _ X1.out; have y1 := cell_of_row _ _ 1 _ _ _ X1.out; have y2 := cell_of_row _ _ 2 _ _ _ X1.out; have g0 := frozen_of_row _ _ 0 _ _ X1.out; have g1 := frozen_of_row _ _ 1 _ _ X1.out; have g2 := frozen_of_row _ _ 2 _ _ X1.out; simp only [List.getElem?_toArray, List.getElem?_cons_zero, List.getElem?_cons_succ] at y0 y1 y2; have Q4 := Aside0.mk (Q1.out.fill X1.out (.int .i64 fk) (.int .u32 fv) (.int .u32 fi)); have hS4 : Aside0 ((((w1.setCell ⟨w.heap.size, 0, none⟩ (.int .i64 fk)).setCell ⟨w.heap.size, 1, none⟩ (.int .u32 fv)).setCell ⟨w.heap.size, 2, none⟩ (.int .u32 fi)).cell? ⟨q, 0, none⟩ = some (.pointer (some ⟨L.m, 0, none⟩)) ∧ (((w1.setCell ⟨w.heap.size, 0, none⟩ (.int .i64 fk)).setCell ⟨w.heap.size, 1, none⟩ (.int .u32 fv)).setCell ⟨w.heap.size, 2, none⟩ (.int .u32 fi)).cell? ⟨q, 1, none⟩ = some (.int .u32 pc) ∧ (((w1.setCell ⟨w.heap.size, 0, none⟩ (.int .i64 fk)).setCell ⟨w.heap.size, 1, none⟩ (.int .u32 fv)).setCell ⟨w.heap.size, 2, none⟩ (.int .u32 fi)).cell? ⟨q, 2, none⟩ = some (.bool u)) := ⟨⟨Q4.out.cell 0, Q4.out.cell 1, Q4.out.cell 2⟩⟩; clear s))
  rotate_left 1
  · have V1 := Aside0.mk (S1.out.fill (Nat.le_refl _) X1.out (.int .i64 fk) (.int .u32 fv) (.int .u32 fi))
    have R1 := Aside0.mk (fill_row X1.out (.int .i64 fk) (.int .u32 fv) (.int .u32 fi))
    have Q5 := Q4
    clear hS4 hS2 Q4
    generalize (((w1.setCell ⟨w.heap.size, 0, none⟩ (.int .i64 fk)).setCell ⟨w.heap.size, 1, none⟩ (.int .u32 fv)).setCell ⟨w.heap.size, 2, none⟩ (.int .u32 fi)) = V at *
    generalize hb3 : w.heap.size = b3 at *
    clear hb3
    have z0 := cell_of_row _ _ 0 _ _ _ R1.out
    have z1 := cell_of_row _ _ 1 _ _ _ R1.out
    have z2 := cell_of_row _ _ 2 _ _ _ R1.out
    have p4 := Q5.out.cell 4
    have p5 := Q5.out.cell 5
    have p6 := Q5.out.cell 6
    have f4 := Q5.out.free 4
    have f5 := Q5.out.free 5
    have f6 := Q5.out.free 6
    simp only [qCells, noF, List.getElem?_toArray, List.getElem?_cons_zero, List.getElem?_cons_succ] at z0 z1 z2 p4 p5 p6
    have E := Aside0.mk (q_fault Q5.out fk fv fi)
    go_wp2
    first | go_end0 | refine bodyPost_ret (results_none rfl _ _ _) rfl ?_
    exact ⟨rfl, FStep.of V1.out Q5.out SEP.out E.out.1 (NextRow.same _ _) (E.out.2.mono (fun i hi => .inl hi))⟩
  · have V1 := Aside0.mk (S1.out.then (below_alloc (Below.refl _ _) (.cells #[.int .i64 fk, .int .u32 fv, .int .u32 fi] 47 (0, 0))))
    have R1 := Aside0.mk (heap_alloc_new w1 (.cells #[.int .i64 fk, .int .u32 fv, .int .u32 fi] 47 (0, 0)))
    have Q5 := Aside0.mk (Q1.out.then (below_alloc (Below.refl _ _) (.cells #[.int .i64 fk, .int .u32 fv, .int .u32 fi] 47 (0, 0))))
    clear hS2
    generalize w1.alloc (.cells #[.int .i64 fk, .int .u32 fv, .int .u32 fi] 47 (0, 0)) = V at *
    have z0 := cell_of_row _ _ 0 _ _ _ R1.out
    have z1 := cell_of_row _ _ 1 _ _ _ R1.out
    have z2 := cell_of_row _ _ 2 _ _ _ R1.out
    have p4 := Q5.out.cell 4
    have p5 := Q5.out.cell 5
    have p6 := Q5.out.cell 6
    have f4 := Q5.out.free 4
    have f5 := Q5.out.free 5
    have f6 := Q5.out.free 6
    simp only [qCells, noF, List.getElem?_toArray, List.getElem?_cons_zero, List.getElem?_cons_succ] at z0 z1 z2 p4 p5 p6
    have E := Aside0.mk (q_fault Q5.out fk fv fi)
    go_wp2
    first | go_end0 | refine bodyPost_ret (results_none rfl _ _ _) rfl ?_
    exact ⟨rfl, FStep.of V1.out Q5.out SEP.out E.out.1 (NextRow.same _ _) (E.out.2.mono (fun i hi => .inl hi))⟩
set_option maxRecDepth 100000 in
set_option maxHeartbeats 4000000 in
theorem cycle_byte (w : World) (base q : Nat) (L : Loc) (v : Value) (T : Tabs) (ps : List (Int × Int)) (l : List Int) (pc : Int) (u : Bool) (A : Option Addr) (c : Nat) (bs : List Int) (hm : MmuAt w base L v T ps l) (h : QAt w base q L.m pc u (.slice A bs.length c) bs noF)
    (hn : bs.length < 16) (sep : (Value.slice A bs.length c).ownBlock ≠ some L.b) (y : Int)
    (PK : Aside0 (∀ W v', MmuAt W base L v' T ps l → Calls Try.prog 32 #[.pointer (some ⟨L.m, 0, none⟩), .int .u32 pc, .bool u] W fun e w' => e = .returned (.tuple #[.int .u8 y, .agg #[.int .i64 0, .int .u32 0, .int .u32 0]]) ∧ MStep W w' base L v' T ps l)) :
    Calls Try.prog 23 #[.pointer (some ⟨q, 0, none⟩)] w fun e w' => e = .returned (.tuple #[]) ∧ FStep w w' base L v T ps l q (.slice A bs.length c) ((pc + 1) % 4294967296) u (bs ++ [y]) noF := by
  have c3 : w.cell? ⟨q, 3, none⟩ = some (.slice A bs.length c) := h.cell 3
  have c4 : w.cell? ⟨q, 4, none⟩ = some (.int .i64 0) := h.cell 4
  have c5 : w.cell? ⟨q, 5, none⟩ = some (.int .u32 0) := h.cell 5
  have c6 : w.cell? ⟨q, 6, none⟩ = some (.int .u32 0) := h.cell 6
  have hn' : ¬ (16 : Int) ≤ bs.length := by omega
  have hS : Aside0 (∀ W, Below w.heap.size w W → W.cell? ⟨q, 0, none⟩ = some (.pointer (some ⟨L.m, 0, none⟩)) ∧ W.cell? ⟨q, 1, none⟩ = some (.int .u32 pc) ∧ W.cell? ⟨q, 2, none⟩ = some (.bool u)) := ⟨fun W hW => ⟨(h.then hW).cell 0, (h.then hW).cell 1, (h.then hW).cell 2⟩⟩
  have M := Aside0.mk hm
  have Q := Aside0.mk h
  have SEP := Aside0.mk sep
  have HN := Aside0.mk hn
  have hS0 := hS.out w (Below.refl _ _)
  clear h hm sep
  go_enter Try.func23, Try.ntmps23
  go_wp2
  go_region_held3 (fun W => W.cell? ⟨q, 0, none⟩ = some (.pointer (some ⟨L.m, 0, none⟩)) ∧ W.cell? ⟨q, 1, none⟩ = some (.int .u32 pc) ∧ W.cell? ⟨q, 2, none⟩ = some (.bool u))
    (first | exact hS.out _ (by assumption) | exact hS.out _ ((Below.refl _ _).drew) | exact hS.out _ (below_alloc ((Below.refl _ _).drew) _) | exact hS.out _ ((below_alloc (Below.refl _ _) _).drew) | exact hS2.out _ (Below.refl _ _) | exact hS2.out _ (below_alloc (Below.refl _ _) _) | exact hS4.out)
    (first
    | (go_at_call 32; (with_reducible refine (PK.out _ _ (M.out.then ((Below.refl _ _).drew))).mono ?_); rintro e w1 ⟨rfl, s⟩; have S1 := Aside0.mk (MStep.after ((Below.refl _ _).drew) s); have Q1 := Aside0.mk (Q.out.mstep M.out SEP.out S1.out); have hS2 : Aside0 (∀ W, Below w1.heap.size w1 W → W.cell? ⟨q, 0, none⟩ = some (.pointer (some ⟨L.m, 0, none⟩)) ∧ W.cell? ⟨q, 1, none⟩ = some (.int .u32 pc) ∧ W.cell? ⟨q, 2, none⟩ = some (.bool u)) := ⟨fun W hW => ⟨(Q1.out.then hW).cell 0, (Q1.out.then hW).cell 1, (Q1.out.then hW).cell 2⟩⟩; clear s)
    | (go_at_call 32; (with_reducible refine (PK.out _ _ (M.out.then ((below_alloc (Below.refl _ _) _).drew))).mono ?_); rintro e w1 ⟨rfl, s⟩; have S1 := Aside0.mk (MStep.after ((below_alloc (Below.refl _ _) _).drew) s); have Q1 := Aside0.mk (Q.out.mstep M.out SEP.out S1.out); have hS2 : Aside0 (∀ W, Below w1.heap.size w1 W → W.cell? ⟨q, 0, none⟩ = some (.pointer (some ⟨L.m, 0, none⟩)) ∧ W.cell? ⟨q, 1, none⟩ = some (.int .u32 pc) ∧ W.cell? ⟨q, 2, none⟩ = some (.bool u)) := ⟨fun W hW => ⟨(Q1.out.then hW).cell 0, (Q1.out.then hW).cell 1, (Q1.out.then hW).cell 2⟩⟩; have X1 := Aside0.mk (box_keep M.out (V := (w.alloc (.cells #[.int .i64 0, .int .u32 0, .int .u32 0] 47 (0, 0))).drew) (heap_alloc_new w _) (Nat.le_refl _) s); have y0 := cell_of_row _ _ 0 _ _ _ X1.out; have y1 := cell_of_row _ _ 1 _ _ _ X1.out; have y2 := cell_of_row _ _ 2 _ _ _ X1.out; have g0 := frozen_of_row _ _ 0 _ _ X1.out; have g1 := frozen_of_row _ _ 1 _ _ X1.out; have g2 := frozen_of_row _ _ 2 _ _ X1.out; simp only [List.getElem?_toArray, List.getElem?_cons_zero, List.getElem?_cons_succ] at y0 y1 y2; have Q4 := Aside0.mk (Q1.out.fill X1.out (.int .i64 0) (.int .u32 0) (.int .u32 0)); have hS4 : Aside0 ((((w1.setCell ⟨w.heap.size, 0, none⟩ (.int .i64 0)).setCell ⟨w.heap.size, 1, none⟩ (.int .u32 0)).setCell ⟨w.heap.size, 2, none⟩ (.int .u32 0)).cell? ⟨q, 0, none⟩ = some (.pointer (some ⟨L.m, 0, none⟩)) ∧ (((w1.setCell ⟨w.heap.size, 0, none⟩ (.int .i64 0)).setCell ⟨w.heap.size, 1, none⟩ (.int .u32 0)).setCell ⟨w.heap.size, 2, none⟩ (.int .u32 0)).cell? ⟨q, 1, none⟩ = some (.int .u32 pc) ∧ (((w1.setCell ⟨w.heap.size, 0, none⟩ (.int .i64 0)).setCell ⟨w.heap.size, 1, none⟩ (.int .u32 0)).setCell ⟨w.heap.size, 2, none⟩ (.int .u32 0)).cell? ⟨q, 2, none⟩ = some (.bool u)) := ⟨⟨Q4.out.cell 0, Q4.out.cell 1, Q4.out.cell 2⟩⟩; clear s))
  rotate_left 1
  · have V1 := Aside0.mk (S1.out.fill (Nat.le_refl _) X1.out (.int .i64 0) (.int .u32 0) (.int .u32 0))
    have R1 := Aside0.mk (fill_row X1.out (.int .i64 0) (.int .u32 0) (.int .u32 0))
    have Q5 := Q4
    clear hS4 hS2 Q4
    generalize (((w1.setCell ⟨w.heap.size, 0, none⟩ (.int .i64 0)).setCell ⟨w.heap.size, 1, none⟩ (.int .u32 0)).setCell ⟨w.heap.size, 2, none⟩ (.int .u32 0)) = V at *
    generalize hb3 : w.heap.size = b3 at *
    clear hb3
    have z0 := cell_of_row _ _ 0 _ _ _ R1.out
    have z1 := cell_of_row _ _ 1 _ _ _ R1.out
    have z2 := cell_of_row _ _ 2 _ _ _ R1.out
    have p1 := Q5.out.cell 1
    have p3 := Q5.out.cell 3
    have f1 := Q5.out.free 1
    have f3 := Q5.out.free 3
    simp only [qCells, noF, List.getElem?_toArray, List.getElem?_cons_zero, List.getElem?_cons_succ] at z0 z1 z2 p1 p3
    have hq1 := Q5.out.lt
    have hq2 : ¬ q = V.heap.size := by omega
    have hge : base ≤ V.heap.size := by have := Q5.out.ge; omega
    have HG := Aside0.mk hge
    clear hge hq1 c3 c4 c5 c6
    go_wp2_with (first
      | (at_builtin; refine print_append_num (w0 := V) base rfl (.tmp 49) (.tmp 51) 22 5 .u8 1 rfl Try.underlying22 infoB (by decide) (.slice A bs.length c) bs y rfl rfl Q5.out.row (Below.refl _ _) HG.out (by have := HN.out; omega) ?_; intro v1 w2 ho hb hg hat; rw [show (bs ++ [y]).length = bs.length + 1 from by simp] at ho; obtain ⟨A9, c9, rfl⟩ := Go.Proofs.Ytiogbgjeimdgmaa.TlbWalk.own_val ho; have E := Aside0.mk (q_append Q5.out (bs' := bs ++ [y]) (by simp) ho hg hat ((pc + 1) % 4294967296)); have p1' := E.out.1; have p3' := E.out.2.1; have f1' := E.out.2.2.1; have f3' := E.out.2.2.2.1; have c1' := E.out.2.2.2.2.1; clear ho hb hg hat))
    first | go_end0 | refine bodyPost_ret (results_none rfl _ _ _) rfl ?_
    exact ⟨rfl, FStep.of V1.out Q5.out SEP.out E.out.2.2.2.2.2.1 E.out.2.2.2.2.2.2.1 E.out.2.2.2.2.2.2.2⟩
  · have V1 := Aside0.mk (S1.out.then (below_alloc (Below.refl _ _) (.cells #[.int .i64 0, .int .u32 0, .int .u32 0] 47 (0, 0))))
    have R1 := Aside0.mk (heap_alloc_new w1 (.cells #[.int .i64 0, .int .u32 0, .int .u32 0] 47 (0, 0)))
    have Q5 := Aside0.mk (Q1.out.then (below_alloc (Below.refl _ _) (.cells #[.int .i64 0, .int .u32 0, .int .u32 0] 47 (0, 0))))
    clear hS2
    generalize w1.alloc (.cells #[.int .i64 0, .int .u32 0, .int .u32 0] 47 (0, 0)) = V at *
    have z0 := cell_of_row _ _ 0 _ _ _ R1.out
    have z1 := cell_of_row _ _ 1 _ _ _ R1.out
    have z2 := cell_of_row _ _ 2 _ _ _ R1.out
    have p1 := Q5.out.cell 1
    have p3 := Q5.out.cell 3
    have f1 := Q5.out.free 1
    have f3 := Q5.out.free 3
    simp only [qCells, noF, List.getElem?_toArray, List.getElem?_cons_zero, List.getElem?_cons_succ] at z0 z1 z2 p1 p3
    have hq1 := Q5.out.lt
    have hq2 : ¬ q = V.heap.size := by omega
    have hge : base ≤ V.heap.size := by have := Q5.out.ge; omega
    have HG := Aside0.mk hge
    clear hge hq1 c3 c4 c5 c6
    go_wp2_with (first
      | (at_builtin; refine print_append_num (w0 := V) base rfl (.tmp 49) (.tmp 51) 22 5 .u8 1 rfl Try.underlying22 infoB (by decide) (.slice A bs.length c) bs y rfl rfl Q5.out.row (Below.refl _ _) HG.out (by have := HN.out; omega) ?_; intro v1 w2 ho hb hg hat; rw [show (bs ++ [y]).length = bs.length + 1 from by simp] at ho; obtain ⟨A9, c9, rfl⟩ := Go.Proofs.Ytiogbgjeimdgmaa.TlbWalk.own_val ho; have E := Aside0.mk (q_append Q5.out (bs' := bs ++ [y]) (by simp) ho hg hat ((pc + 1) % 4294967296)); have p1' := E.out.1; have p3' := E.out.2.1; have f1' := E.out.2.2.1; have f3' := E.out.2.2.2.1; have c1' := E.out.2.2.2.2.1; clear ho hb hg hat))
    first | go_end0 | refine bodyPost_ret (results_none rfl _ _ _) rfl ?_
    exact ⟨rfl, FStep.of V1.out Q5.out SEP.out E.out.2.2.2.2.2.1 E.out.2.2.2.2.2.2.1 E.out.2.2.2.2.2.2.2⟩
end Go.Proofs.Ytiogbgjeimdgmaa.MmuWalk
/- The fetch queue's Cycle: its contract; Take, walked. -/
namespace Go.Proofs.Ytiogbgjeimdgmaa.MmuWalk
open Go.RowKit Go.Proofs.Ytiogbgjeimdgmaa.Aid Go.Proofs.YtiogbgjeimdgmaaW.PrintWords Go.Proofs.YtiogbgjeimdgmaaW.PrintLast Go.Proofs.YtiogbgjeimdgmaaW.PrintMore
open Go.Proofs.Ytiogbgjeimdgmaa.RamWalk (RamAt Bytes leN clone_n)
open Go.Proofs.Ytiogbgjeimdgmaa.TlbWalk (TlbAt Kept2 putP dropP posP entP nil2 own_val)
attribute [local go_sem] max2_int min2_int max_two min_two max_three min_three max_four min_four   -- for this text's walks alone
set_option linter.unusedVariables false
set_option linter.unusedSimpArgs false
/-- What Cycle makes of a queue. -/
def cycF (T : Tabs) (ps : List (Int × Int)) (l : List Int) (pc : Int) (u : Bool) (bs : List Int) (f : Flt) : Int × List Int × Flt :=
  if 16 ≤ bs.length ∨ f.1 ≠ 0 then (pc, bs, f) else if (peekF T ps l pc u).2.1 ≠ 0 then (pc, bs, (peekF T ps l pc u).2) else ((pc + 1) % 4294967296, bs ++ [(peekF T ps l pc u).1], f)
def goodF (f : Flt) : Prop := f.1 = 0 → f = noF
theorem peekF_good {T : Tabs} {ps : List (Int × Int)} {l : List Int} {va : Int} {u : Bool} : goodF (peekF T ps l va u).2 := by
  intro h
  unfold peekF at h ⊢
  split at h
  · rename_i hk; exact absurd h hk
  · rename_i hk; rw [if_neg hk]
theorem peekF_zero {T : Tabs} {ps : List (Int × Int)} {l : List Int} {va : Int} {u : Bool} (h : (peekF T ps l va u).2.1 ≠ 0) : (peekF T ps l va u).1 = 0 := by
  unfold peekF at h ⊢
  split at h
  · rename_i hk; rw [if_pos hk]
  · exact absurd rfl h
theorem cycF_good {T : Tabs} {ps : List (Int × Int)} {l : List Int} {pc : Int} {u : Bool} {bs : List Int} {f : Flt} (h : goodF f) : goodF (cycF T ps l pc u bs f).2.2 := by
  unfold cycF
  split
  · exact h
  · split
    · exact peekF_good
    · exact h
theorem cycF_pc {T : Tabs} {ps : List (Int × Int)} {l : List Int} {pc : Int} {u : Bool} {bs : List Int} {f : Flt} (h : R32 pc) : R32 (cycF T ps l pc u bs f).1 := by
  unfold cycF
  split
  · exact h
  · split
    · exact h
    · exact ⟨Int.emod_nonneg _ (by decide), Int.emod_lt_of_pos _ (by decide)⟩
theorem q_val {W : World} {base q m : Nat} {pc : Int} {u : Bool} {vb : Value} {bs : List Int} {f : Flt} (h : QAt W base q m pc u vb bs f) : ∃ A c, vb = .slice A bs.length c := own_val h.row
theorem cycle_call (w : World) (base q : Nat) (L : Loc) (v : Value) (T : Tabs) (ps : List (Int × Int)) (l : List Int) (pc : Int) (u : Bool) (vb : Value) (bs : List Int) (f : Flt) (hm : MmuAt w base L v T ps l) (h : QAt w base q L.m pc u vb bs f) (sep : vb.ownBlock ≠ some L.b) (hpc : R32 pc) (hf : goodF f) :
    Calls Try.prog 23 #[.pointer (some ⟨q, 0, none⟩)] w fun e w' => e = .returned (.tuple #[]) ∧ FStep w w' base L v T ps l q vb (cycF T ps l pc u bs f).1 u (cycF T ps l pc u bs f).2.1 (cycF T ps l pc u bs f).2.2 := by
  obtain ⟨A, c, rfl⟩ := q_val h
  have same : FStep w w base L v T ps l q (.slice A bs.length c) pc u bs f := FStep.of (MStep.of_below hm (Below.refl _ _)) h sep h (NextRow.same _ _) (Chg.refl _ _)
  unfold cycF
  by_cases h16 : 16 ≤ bs.length
  · rw [if_pos (.inl h16)]
    refine (cycle_full w base q L.m pc u A bs.length c bs f h h16).mono ?_
    rintro e w' ⟨rfl, rfl⟩
    exact ⟨rfl, same⟩
  · by_cases hk : f.1 = 0
    · have := hf hk
      subst this
      rw [if_neg (fun c => c.elim h16 (fun k => k rfl))]
      have PK := Aside0.mk (fun W v' (k : MmuAt W base L v' T ps l) => peek_call W base L v' T ps l pc u hpc k)
      have hg := @peekF_good T ps l pc u
      have hz := @peekF_zero T ps l pc u
      generalize peekF T ps l pc u = r at *
      obtain ⟨y, fk, fv, fi⟩ := r
      by_cases hk2 : fk = 0
      · have := hg hk2
        simp only [noF, Prod.mk.injEq] at this
        obtain ⟨rfl, rfl, rfl⟩ := this
        rw [if_neg (fun c => c rfl)]
        exact cycle_byte w base q L v T ps l pc u A c bs hm h (by omega) sep y PK
      · rw [if_pos hk2]
        have hz := hz hk2
        simp only at hz
        subst hz
        exact cycle_flt w base q L v T ps l pc u A c bs hm h (by omega) sep fk fv fi (beq_eq_false_iff_ne.mpr hk2) PK
    · rw [if_pos (.inr hk)]
      obtain ⟨fk, fv, fi⟩ := f
      refine (cycle_stop w base q L.m pc fk fv fi u A bs.length c bs h (by omega) (beq_eq_false_iff_ne.mpr hk)).mono ?_
      rintro e w' ⟨rfl, rfl⟩
      exact ⟨rfl, same⟩
theorem results_tct {P : Program} {fn : Func} {p u v : Tmp} {ty : TypeId} (h : fn.results = #[.tmp u, .cell p ty, .tmp v]) (tmps : Array Value) (w : World) (g : Nat) (t : TypeId) (cs : Array Value) (fr : Nat × Nat) (d : TypeDesc)
    (hp : tmps.getD p undef = .pointer (some ⟨g, 0, none⟩)) (hg : w.heap[g]? = some (.cells cs t fr))
    (hu : P.underlying ty = some d) (hd : (match d with | .struct _ | .array _ _ => true | _ => false) = true) (hi : (P.info? ty).map (·.size) = some cs.size) :
    (results fn tmps).run P w = .ok (.tuple #[tmps.getD u undef, .agg cs, tmps.getD v undef]) w := by
  have hp' : tmps[p]?.getD undef = .pointer (some ⟨g, 0, none⟩) := by simpa using hp
  simp [results, h, hp', asAddr, run_loadVar_row w g t ty cs fr d hg hu hd hi]
theorem take_end {w W w1 w2 : World} {base q m : Nat} {pc : Int} {u : Bool} {vb v2 : Value} {bs bs2 : List Int} {f : Flt} {b1 c1 n n2 : Nat} {X : List Value} {a b c : Value} (h : QAt w base q m pc u vb bs f) (bW : Below w.heap.size w W) (hs : w.heap.size < W.heap.size) (hx : W.heap[w.heap.size]? = some (.cells #[a, b, c] 47 (0, 0)))
    (k1 : Below W.heap.size W w1) (o1 : w1.ownsRow W.heap.size 5 1 (.slice (some ⟨b1, 0, none⟩) n c1) n X) (k2 : Below w1.heap.size w1 w2) (o2 : w2.ownsRow w1.heap.size 5 1 v2 n2 (nums .u8 bs2)) (hl : bs2.length = n2) (z : Array Value) :
    ((w2.setCell ⟨q, 3, none⟩ v2).setRow w.heap.size z).ownsRow w.heap.size 5 1 (.slice (some ⟨b1, 0, none⟩) n c1) n X ∧ QAt ((w2.setCell ⟨q, 3, none⟩ v2).setRow w.heap.size z) base q m pc u v2 bs2 f ∧ NextRow w vb v2 ∧ Chg (fun i => i = q) w ((w2.setCell ⟨q, 3, none⟩ v2).setRow w.heap.size z) ∧
    (w2.setCell ⟨q, 3, none⟩ v2).heap[w.heap.size]? = some (.cells #[a, b, c] 47 (0, 0)) ∧ w2.cell? ⟨q, 3, none⟩ = some vb ∧ w2.frozen? ⟨q, 3, none⟩ = false := by
  subst hl
  have hq := h.lt
  have b2 : Below w.heap.size w w2 := below_step (below_step bW k1) k2
  have hb : w2.heap[q]? = some (.cells (qCells m pc u vb f) 109 (0, 0)) := (h.then b2).blk
  have e : ∀ i, i ≠ q → i ≠ w.heap.size → ((w2.setCell ⟨q, 3, none⟩ v2).setRow w.heap.size z).heap[i]? = w2.heap[i]? := fun i h1 h2 => (setRow_other _ w.heap.size i z h2).trans (Below.heap_setCell w2 ⟨q, 3, none⟩ v2 i h1)
  have hw1 := k1.size
  have l1 : ∀ i, (Value.slice (some ⟨b1, 0, none⟩) n c1).ownBlock = some i → W.heap.size ≤ i ∧ i < w1.heap.size := fun i hi => by
    rcases o1.2 with ⟨hv, _⟩ | ⟨b', c', cur, hv, hb', hh, _⟩
    · simp at hv
    · simp only [Value.slice.injEq, Option.some.injEq, Addr.mk.injEq, and_true, true_and] at hv
      simp only [Value.ownBlock, Option.some.injEq] at hi
      have := (Array.getElem?_eq_some_iff.1 hh).1
      omega
  have l2 : ∀ i, v2.ownBlock = some i → w1.heap.size ≤ i := fun i hi => by
    rcases o2.2 with ⟨rfl, _⟩ | ⟨b', c', cur, rfl, hb', _⟩
    · simp [Value.ownBlock] at hi
    · simp only [Value.ownBlock, Option.some.injEq] at hi
      omega
  refine ⟨own_less (own_keep o1 (fun i hi => (e i (by have := l1 i hi; omega) (by have := l1 i hi; omega)).trans (k2.block i (l1 i hi).2))) (Nat.le_of_lt hs), ⟨?_, h.ge, own_less (own_keep o2 (fun i hi => e i (by have := l2 i hi; omega) (by have := l2 i hi; omega))) (by have := h.ge; omega)⟩, fun i hi => .inr (by have := l2 i hi; omega), ⟨b2.os, b2.tape, b2.output, ?_, fun i hi hf => (e i hf (by omega)).trans (b2.block i hi)⟩, ?_, cell_of_row _ _ 3 _ _ _ hb, frozen_of_row _ _ 3 _ _ hb⟩
  · exact (setRow_other _ w.heap.size q z (by omega)).trans (blk_put hb 3 v2 rfl)
  · simpa [World.setRow, World.setCell] using b2.size
  · exact (Below.heap_setCell w2 ⟨q, 3, none⟩ v2 w.heap.size (by show w.heap.size ≠ q; omega)).trans (row_then (row_then hx k1) k2)
set_option maxRecDepth 100000 in
set_option maxHeartbeats 2000000 in
theorem take_off (w : World) (q : Nat) (n : Int) (h : n < 0 ∨ 16 < n) : Calls Try.prog 25 #[.pointer (some ⟨q, 0, none⟩), .int .i64 n] w fun e w' => e = .returned (.tuple #[.slice none 0 0, fltV noF, .bool false]) ∧ Below w.heap.size w w' := by
  rcases h with h | h
  all_goals
    go_enter Try.func25, Try.ntmps25
    go_wp2_with (first
      | (refine wpList_store_row rfl 47 (.tmp 5) (.tmp 19) rfl w.heap.size #[.int .i64 0, .int .u32 0, .int .u32 0] rfl rfl _ _ (heap_alloc_new w _) infoF rfl (by kernel_rfl) ?_))
    refine bodyPost_ret (results_tct rfl _ _ w.heap.size 47 #[.int .i64 0, .int .u32 0, .int .u32 0] (0, 0) _ rfl (setRow_heap _ _ _ _ 47 _ (heap_alloc_new w _)) Try.underlying47 rfl infoF) rfl ⟨rfl, below_setRow (below_alloc (Below.refl _ _) _) (Nat.le_refl _) _⟩
set_option maxRecDepth 100000 in
set_option maxHeartbeats 2000000 in
theorem take_have (w : World) (base q m : Nat) (pc : Int) (u : Bool) (ad : Addr) (c n : Nat) (bs : List Int) (f : Flt) (h : QAt w base q m pc u (.slice (some ad) bs.length c) bs f) (hn : n ≤ bs.length) (h16 : n ≤ 16) (hl : bs.length ≤ 16) :
    Calls Try.prog 25 #[.pointer (some ⟨q, 0, none⟩), .int .i64 n] w fun e w' => ∃ b1 c1 v2, e = .returned (.tuple #[.slice (some ⟨b1, 0, none⟩) n c1, fltV noF, .bool true]) ∧
      w'.ownsRow w.heap.size 5 1 (.slice (some ⟨b1, 0, none⟩) n c1) n (nums .u8 (bs.take n)) ∧ QAt w' base q m pc u v2 (bs.drop n) f ∧ NextRow w (.slice (some ad) bs.length c) v2 ∧ Chg (fun i => i = q) w w' := by
  have RI := own_reads' h.row
  have hc : bs.length ≤ c := own_le h.row
  have H := Aside0.mk h
  have BX := box1 w (.cells #[.int .i64 0, .int .u32 0, .int .u32 0] 47 (0, 0))
  have hsz : (w.alloc (.cells #[.int .i64 0, .int .u32 0, .int .u32 0] 47 (0, 0))).heap.size = w.heap.size + 1 := by simp [World.alloc_eq]
  obtain ⟨W, hW⟩ : ∃ W, w.alloc (.cells #[.int .i64 0, .int .u32 0, .int .u32 0] 47 (0, 0)) = W := ⟨_, rfl⟩
  rw [hW] at BX hsz
  have BX := Aside0.mk BX
  have c3 : W.cell? ⟨q, 3, none⟩ = some (.slice (some ad) bs.length c) := (h.then BX.out.1).cell 3
  have CL1 := Aside0.mk (clone_n W ad n c (bs.take n) (by rw [List.length_take]; omega) ((RI.below BX.out.1).take_ n hn) (by omega))
  have CL2 := Aside0.mk (fun w1 (k : Below W.heap.size W w1) => (RI.below (below_step BX.out.1 k)).drop_ n hn hc)
  have hn1 : (n : Int) ≤ bs.length := by omega
  have hn0 : ¬ (n : Int) < 0 := by omega
  have hn5 : ¬ 16 < (n : Int) := by omega
  have hn2 : (n : Int) ≤ 16 := by omega
  have hn3 : (n : Int) ≤ c := by omega
  have hn4 : (bs.length : Int) ≤ c := by omega
  have LD := Aside0.mk (show (bs.drop n).length = bs.length - n by rw [List.length_drop])
  have L16 := Aside0.mk hl
  have HSZ := Aside0.mk hsz
  clear h RI hsz hl
  have CLa : Aside0 (c = n → ∀ w1, Below W.heap.size W w1 → ReadsInt w1 .u8 (some ad) (bs.length - n) (bs.drop n)) := ⟨fun e w1 k => by have := CL2.out w1 k; rwa [if_pos e] at this⟩
  have CLb : Aside0 (¬ c = n → ∀ w1, Below W.heap.size W w1 → ReadsInt w1 .u8 (some (ad.add n)) (bs.length - n) (bs.drop n)) := ⟨fun e w1 k => by have := CL2.out w1 k; rwa [if_neg e] at this⟩
  clear CL2
  go_enter Try.func25, Try.ntmps25
  go_wp2_with (first
    | (go_at_call 64; (with_reducible refine (CL1.out).mono ?_); rintro e w1 ⟨b1, c1, rfl, o1, k1⟩; have O1 := Aside0.mk o1; have K1 := Aside0.mk k1; have c3' : w1.cell? ⟨q, 3, none⟩ = some (.slice (some ad) bs.length c) := (H.out.then (below_step BX.out.1 k1)).cell 3; clear o1 k1)
    | (go_at_call 64; (with_reducible refine (clone_n _ ad (bs.length - n) 0 (bs.drop n) LD.out (CLa.out (by assumption) _ K1.out) (by have := L16.out; omega)).mono ?_); rintro e w2 ⟨b2, c2, rfl, o2, k2⟩; have TE := Aside0.mk (take_end H.out BX.out.1 (by have := HSZ.out; omega) BX.out.2 K1.out O1.out k2 o2 LD.out #[.int .i64 0, .int .u32 0, .int .u32 0]); have q3 := TE.out.2.2.2.2.2.1; have q4 := TE.out.2.2.2.2.2.2; clear o2 k2)
    | (go_at_call 64; (with_reducible refine (clone_n _ (ad.add n) (bs.length - n) (c - n) (bs.drop n) LD.out (CLb.out (by assumption) _ K1.out) (by have := L16.out; omega)).mono ?_); rintro e w2 ⟨b2, c2, rfl, o2, k2⟩; have TE := Aside0.mk (take_end H.out BX.out.1 (by have := HSZ.out; omega) BX.out.2 K1.out O1.out k2 o2 LD.out #[.int .i64 0, .int .u32 0, .int .u32 0]); have q3 := TE.out.2.2.2.2.2.1; have q4 := TE.out.2.2.2.2.2.2; clear o2 k2)
    | (refine wpList_store_row rfl 47 (.tmp 5) (.tmp 46) rfl w.heap.size #[.int .i64 0, .int .u32 0, .int .u32 0] rfl rfl _ _ TE.out.2.2.2.2.1 infoF rfl (by kernel_rfl) ?_))
  all_goals refine bodyPost_ret (results_tct rfl _ _ w.heap.size 47 #[.int .i64 0, .int .u32 0, .int .u32 0] (0, 0) _ rfl (setRow_heap _ _ _ _ 47 _ TE.out.2.2.2.2.1) Try.underlying47 rfl infoF) rfl ⟨b1, c1, _, rfl, TE.out.1, TE.out.2.1, TE.out.2.2.1, TE.out.2.2.2.1⟩
end Go.Proofs.Ytiogbgjeimdgmaa.MmuWalk
/- The fetch queue's Take of what is not there; the contracts over one state; alive. -/
namespace Go.Proofs.Ytiogbgjeimdgmaa.MmuWalk
open Go.RowKit Go.Proofs.Ytiogbgjeimdgmaa.Aid Go.Proofs.YtiogbgjeimdgmaaW.PrintWords Go.Proofs.YtiogbgjeimdgmaaW.PrintLast Go.Proofs.YtiogbgjeimdgmaaW.PrintMore
open Go.Proofs.Ytiogbgjeimdgmaa.RamWalk (RamAt Bytes leN clone_n bytes_n new_nat put_i load_n own_cell)
open Go.Proofs.Ytiogbgjeimdgmaa.TlbWalk (TlbAt Kept2 putP dropP posP entP nil2 own_val)
attribute [local go_sem] max2_int min2_int max_two min_two max_three min_three max_four min_four   -- for this text's walks alone
set_option linter.unusedVariables false
set_option linter.unusedSimpArgs false
set_option maxRecDepth 100000 in
set_option maxHeartbeats 2000000 in
theorem take_none (w : World) (base q m : Nat) (pc fk fv fi : Int) (u : Bool) (A : Option Addr) (c k : Nat) (n : Int) (bs : List Int) (h : QAt w base q m pc u (.slice A k c) bs (fk, fv, fi)) (hn : ¬ n ≤ k) (h16 : n ≤ 16) :
    Calls Try.prog 25 #[.pointer (some ⟨q, 0, none⟩), .int .i64 n] w fun e w' => e = .returned (.tuple #[.slice none 0 0, .agg #[.int .i64 fk, .int .u32 fv, .int .u32 fi], .bool (fk != 0)]) ∧ Below w.heap.size w w' := by
  have BX := box1 w (.cells #[.int .i64 0, .int .u32 0, .int .u32 0] 47 (0, 0))
  obtain ⟨W, hW⟩ : ∃ W, w.alloc (.cells #[.int .i64 0, .int .u32 0, .int .u32 0] 47 (0, 0)) = W := ⟨_, rfl⟩
  rw [hW] at BX
  have BX := Aside0.mk BX
  have c3 : W.cell? ⟨q, 3, none⟩ = some (.slice A k c) := (h.then BX.out.1).cell 3
  have c4 : W.cell? ⟨q, 4, none⟩ = some (.int .i64 fk) := (h.then BX.out.1).cell 4
  have c5 : W.cell? ⟨q, 5, none⟩ = some (.int .u32 fv) := (h.then BX.out.1).cell 5
  have c6 : W.cell? ⟨q, 6, none⟩ = some (.int .u32 fi) := (h.then BX.out.1).cell 6
  have z0 := cell_of_row _ _ 0 _ _ _ BX.out.2
  have z1 := cell_of_row _ _ 1 _ _ _ BX.out.2
  have z2 := cell_of_row _ _ 2 _ _ _ BX.out.2
  have g0 := frozen_of_row _ _ 0 _ _ BX.out.2
  have g1 := frozen_of_row _ _ 1 _ _ BX.out.2
  have g2 := frozen_of_row _ _ 2 _ _ BX.out.2
  simp only [List.getElem?_toArray, List.getElem?_cons_zero, List.getElem?_cons_succ] at z0 z1 z2
  have hn0 : ¬ n < 0 := by omega
  have hn5 : ¬ 16 < n := by omega
  have hqs : ¬ w.heap.size = q := by have := h.lt; omega
  clear h
  go_enter Try.func25, Try.ntmps25
  go_wp2
  go_region
  all_goals (
    go_wp2
    refine bodyPost_ret (results_tct rfl _ _ w.heap.size 47 #[.int .i64 fk, .int .u32 fv, .int .u32 fi] (0, 0) _ rfl (flt3_put BX.out.2 _ _ _) Try.underlying47 rfl infoF) rfl ⟨rfl, flt3_below BX.out.1 (Nat.le_refl _) _ _ _⟩)
theorem foot_ge {W : World} {base : Nat} {L : Loc} {v : Value} {T : Tabs} {ps : List (Int × Int)} {l : List Int} (h : MmuAt W base L v T ps l) (i : Nat) (f : foot L v i) : base ≤ i := by
  rcases f with f | f | f | f
  · rw [f]; exact h.ge
  · rw [f]; exact h.tlb.2.1
  · rw [f]; exact h.ram.baseb
  · exact (h.tlb.row i f.symm).1
theorem qfoot_ge {W : World} {base q m : Nat} {pc : Int} {u : Bool} {vb : Value} {bs : List Int} {f : Flt} (h : QAt W base q m pc u vb bs f) (i : Nat) (k : qfoot q vb i) : base ≤ i := by
  rcases k with k | k
  · rw [k]; exact h.ge
  · exact (h.rowlt i k.symm).1
/-- An MMU that was made behind w0. -/
def MP (w0 W : World) (L : Loc) (T : Tabs) (ps : List (Int × Int)) (l : List Int) : Prop := Below w0.heap.size w0 W ∧ ∃ v, MmuAt W w0.heap.size L v T ps l
theorem MP.step {w0 W W' : World} {L : Loc} {v : Value} {T T' : Tabs} {ps ps' : List (Int × Int)} {l l' : List Int} (b : Below w0.heap.size w0 W) (h : MmuAt W w0.heap.size L v T ps l) (s : MStep W W' w0.heap.size L v T' ps' l') : MP w0 W' L T' ps' l' := by
  obtain ⟨⟨v', m, _⟩, c⟩ := s
  exact ⟨c.below b (fun i hi => foot_ge h i hi), v', m⟩
/-- An MMU and a queue over it, made behind w0. -/
def FP (w0 W : World) (L : Loc) (T : Tabs) (ps : List (Int × Int)) (l : List Int) (q : Nat) (pc : Int) (u : Bool) (bs : List Int) (f : Flt) : Prop :=
  Below w0.heap.size w0 W ∧ ∃ v vb, MmuAt W w0.heap.size L v T ps l ∧ QAt W w0.heap.size q L.m pc u vb bs f ∧ vb.ownBlock ≠ some L.b
theorem FP.then {w0 W W' : World} {L : Loc} {T : Tabs} {ps : List (Int × Int)} {l : List Int} {q : Nat} {pc : Int} {u : Bool} {bs : List Int} {f : Flt} (h : FP w0 W L T ps l q pc u bs f) (b : Below W.heap.size W W') : FP w0 W' L T ps l q pc u bs f := by
  obtain ⟨b0, v, vb, m, k, s⟩ := h
  exact ⟨below_step b0 b, v, vb, m.then b, k.then b, s⟩
theorem FP.of {w0 W W' : World} {L : Loc} {v : Value} {T : Tabs} {ps : List (Int × Int)} {l : List Int} {q : Nat} {vb : Value} {pc pc' : Int} {u u' : Bool} {bs bs' : List Int} {f f' : Flt} (b : Below w0.heap.size w0 W) (m : MmuAt W w0.heap.size L v T ps l) (k : QAt W w0.heap.size q L.m pc u vb bs f)
    (s : FStep W W' w0.heap.size L v T ps l q vb pc' u' bs' f') : FP w0 W' L T ps l q pc' u' bs' f' := by
  obtain ⟨v', vb', m', _, k', _, sep, c⟩ := s
  refine ⟨c.below b (fun i hi => ?_), v', vb', m', k', sep⟩
  rcases hi with hi | hi
  · exact foot_ge m i hi
  · exact qfoot_ge k i hi
theorem pcycle (w0 W : World) (L : Loc) (T : Tabs) (ps : List (Int × Int)) (l : List Int) (q : Nat) (pc : Int) (u : Bool) (bs : List Int) (f : Flt) (h : FP w0 W L T ps l q pc u bs f) (hpc : R32 pc) (hf : goodF f) :
    Calls Try.prog 23 #[.pointer (some ⟨q, 0, none⟩)] W fun e w' => e = .returned (.tuple #[]) ∧ FP w0 w' L T ps l q (cycF T ps l pc u bs f).1 u (cycF T ps l pc u bs f).2.1 (cycF T ps l pc u bs f).2.2 := by
  obtain ⟨b, v, vb, m, k, s⟩ := h
  refine (cycle_call W _ q L v T ps l pc u vb bs f m k s hpc hf).mono ?_
  rintro e w' ⟨rfl, st⟩
  exact ⟨rfl, FP.of b m k st⟩
theorem pnew (w0 W : World) (L : Loc) (T : Tabs) (ps : List (Int × Int)) (l : List Int) (h : MP w0 W L T ps l) :
    Calls Try.prog 21 #[.pointer (some ⟨L.m, 0, none⟩)] W fun e w' => ∃ q, e = .returned (.pointer (some ⟨q, 0, none⟩)) ∧ FP w0 w' L T ps l q 0 false [] noF := by
  obtain ⟨b, v, m⟩ := h
  refine (fnew_call W L.m).mono ?_
  rintro e w' ⟨q, rfl, k, hb⟩
  exact ⟨q, rfl, below_step b hb, v, _, m.then hb, ⟨k.blk, Nat.le_trans b.size k.ge, own_less k.row b.size⟩, by simp [Value.ownBlock]⟩
end Go.Proofs.Ytiogbgjeimdgmaa.MmuWalk
/- The fetch queue's Take over one state; alive. -/
namespace Go.Proofs.Ytiogbgjeimdgmaa.MmuWalk
open Go.RowKit Go.Proofs.Ytiogbgjeimdgmaa.Aid Go.Proofs.YtiogbgjeimdgmaaW.PrintWords Go.Proofs.YtiogbgjeimdgmaaW.PrintLast Go.Proofs.YtiogbgjeimdgmaaW.PrintMore
open Go.Proofs.Ytiogbgjeimdgmaa.RamWalk (RamAt Bytes leN clone_n bytes_n new_nat put_i load_n own_cell zeros_bytes putL putL_bytes)
open Go.Proofs.Ytiogbgjeimdgmaa.TlbWalk (TlbAt Kept2 putP dropP posP entP nil2 own_val own_some)
attribute [local go_sem] max2_int min2_int max_two min_two max_three min_three max_four min_four   -- for this text's walks alone
set_option linter.unusedVariables false
set_option linter.unusedSimpArgs false
theorem ram_below {w W W1 : World} {g b n c : Nat} {l : List Int} (h : Below w.heap.size w W) (r : RamAt W w.heap.size g (.slice (some ⟨b, 0, none⟩) n c) l) (k : W.grownBy W1 (some b)) : Below w.heap.size w W1 :=
  ⟨k.os.trans h.os, k.tape.trans h.tape, k.output.trans h.output, Nat.le_trans h.size k.size, fun i hi => (k.block i (Nat.lt_of_lt_of_le hi h.size) (fun e => by have := r.baseb; simp only [Option.some.injEq] at e; omega)).trans (h.block i hi)⟩
theorem ptake_have (w0 W : World) (L : Loc) (T : Tabs) (ps : List (Int × Int)) (l : List Int) (q : Nat) (pc : Int) (u : Bool) (bs : List Int) (f : Flt) (n : Nat) (m : Int) (hm : (n : Int) = m) (h : FP w0 W L T ps l q pc u bs f) (h1 : 0 < bs.length) (hn : n ≤ bs.length) (hl : bs.length ≤ 16) :
    Calls Try.prog 25 #[.pointer (some ⟨q, 0, none⟩), .int .i64 m] W fun e w' => ∃ b1 c1, e = .returned (.tuple #[.slice (some ⟨b1, 0, none⟩) n c1, (.agg #[.int .i64 0, .int .u32 0, .int .u32 0]), .bool true]) ∧ w'.ownsRow W.heap.size 5 1 (.slice (some ⟨b1, 0, none⟩) n c1) n (nums .u8 (bs.take n)) ∧ FP w0 w' L T ps l q pc u (bs.drop n) f := by
  subst hm
  obtain ⟨b, v, vb, k, k2, s⟩ := h
  obtain ⟨b2, c2, rfl⟩ : ∃ b2 c2, vb = .slice (some ⟨b2, 0, none⟩) bs.length c2 := by
    have := k2.row
    obtain ⟨j, hj⟩ : ∃ j, bs.length = j + 1 := ⟨bs.length - 1, by omega⟩
    rw [hj] at this
    obtain ⟨b2, c2, e⟩ := own_some this
    exact ⟨b2, c2, by rw [e, hj]⟩
  refine (take_have W _ q L.m pc u _ c2 n bs f k2 hn (by omega) hl).mono ?_
  rintro e w' ⟨b1, c1, v2, rfl, o, k3, n2, c⟩
  exact ⟨b1, c1, rfl, o, FP.of b k k2 (FStep.of (MStep.of_below k (Below.refl _ _)) k2 s k3 n2 (c.mono (fun i hi => .inl hi)))⟩
theorem ptake_none (w0 W : World) (L : Loc) (T : Tabs) (ps : List (Int × Int)) (l : List Int) (q : Nat) (pc : Int) (u : Bool) (bs : List Int) (f : Flt) (m : Int) (h : FP w0 W L T ps l q pc u bs f) (hn : ¬ m ≤ bs.length) (h16 : m ≤ 16) :
    Calls Try.prog 25 #[.pointer (some ⟨q, 0, none⟩), .int .i64 m] W fun e w' => e = .returned (.tuple #[.slice none 0 0, .agg #[.int .i64 f.1, .int .u32 f.2.1, .int .u32 f.2.2], .bool (f.1 != 0)]) ∧ FP w0 w' L T ps l q pc u bs f ∧ Below W.heap.size W w' := by
  have h0 := h
  obtain ⟨b, v, vb, k, k2, s⟩ := h
  obtain ⟨A, c, rfl⟩ := q_val k2
  obtain ⟨fk, fv, fi⟩ := f
  refine (take_none W _ q L.m pc fk fv fi u A c bs.length m bs k2 hn h16).mono ?_
  rintro e w' ⟨rfl, hb⟩
  exact ⟨rfl, h0.then hb, hb⟩
theorem pmnew (w0 W : World) (gr b c n : Nat) (l : List Int) (hn : l.length = n) (bW : Below w0.heap.size w0 W) (h : RamAt W w0.heap.size gr (.slice (some ⟨b, 0, none⟩) n c) l) (hb : Bytes l) :
    Calls Try.prog 18 #[.pointer (some ⟨gr, 0, none⟩)] W fun e w' => ∃ L : Loc, e = .returned (.pointer (some ⟨L.m, 0, none⟩)) ∧ L.r = gr ∧ MP w0 w' L noT [] l := by
  subst hn
  refine (mnew_call W _ gr b c l h hb).mono ?_
  rintro e w' ⟨m, t, rfl, k, hb', _, _⟩
  exact ⟨_, rfl, rfl, below_step bW hb', _, k⟩
theorem bytes7 : Bytes [7] := fun x hx => by
  rw [List.mem_singleton] at hx
  subst hx
  decide
theorem r32_0 : R32 0 := ⟨by decide, by decide⟩
theorem r32_1 : R32 1 := ⟨by decide, by decide⟩
theorem good0 : goodF noF := fun _ => rfl
theorem cyc0 : cycF noT [] [7] 0 false [] noF = (1, [7], noF) := by decide
theorem cyc1 : cycF noT [] [7] 1 false [7] noF = (1, [7], (1, 1, 0)) := by decide
set_option maxRecDepth 100000 in
set_option maxHeartbeats 4000000 in
theorem falive_call (w : World) : Calls Try.prog 13 #[] w fun e w' => e = .returned (.bool true) ∧ Below w.heap.size w w' := by
  go_enter Try.func13, Try.ntmps13
  go_wp2_with (first
    | (go_at_call 14; refine (new_nat 1 _ (by decide)).mono ?_; rintro e w1 ⟨gr, b, rfl, hr, hb⟩; have R1 := Aside0.mk hr; have B1 := Aside0.mk hb; clear hr hb)
    | (go_at_call 39; (with_reducible refine (put_i _ _ _ _ _ _ _ 0 1 7 (by decide) (by decide) (by decide) (by decide) R1.out (by decide) (by decide) (by decide)).mono ?_); rintro e w2 ⟨rfl, hr, hg⟩; have R2 := Aside0.mk (show RamAt w2 w.heap.size gr (.slice (some ⟨b, 0, none⟩) 1 1) [7] from hr); have B2 := Aside0.mk (ram_below B1.out R1.out hg); clear hr hg)
    | (go_at_call 18; (with_reducible refine (pmnew w _ _ _ _ 1 [7] rfl B2.out R2.out bytes7).mono ?_); rintro e w3 ⟨L, rfl, _, hm⟩; have M3 := Aside0.mk hm; clear hm)
    | (go_at_call 21; (with_reducible refine (pnew _ _ _ _ _ _ M3.out).mono ?_); rintro e w4 ⟨q, rfl, hf⟩; have F4 := Aside0.mk hf; clear hf)
    | (go_at_call 23; (with_reducible refine (pcycle _ _ _ _ _ _ _ _ _ _ _ F4.out r32_0 good0).mono ?_); rintro e w5 ⟨rfl, hf⟩; rw [cyc0] at hf; have F5 := Aside0.mk hf; clear hf)
    | (go_at_call 23; (with_reducible refine (pcycle _ _ _ _ _ _ _ _ _ _ _ F5.out r32_1 good0).mono ?_); rintro e w6 ⟨rfl, hf⟩; rw [cyc1] at hf; have F6 := Aside0.mk hf; clear hf)
    | (go_at_call 25; (with_reducible refine (ptake_have _ _ _ _ _ _ _ _ _ _ _ 1 1 rfl F6.out (by decide) (by decide) (by decide)).mono ?_); rintro e w7 ⟨b1, c1, rfl, ho, hf⟩; have F7 := Aside0.mk (fun o => hf.then (below_alloc (Below.refl _ _) o)); have O7 := Aside0.mk (show w7.cell? ⟨b1, 0, none⟩ = some (.int .u8 7) from own_cell ho (i := 0) (by decide)); have L7 := Aside0.mk (World.block_lt_of_cell? w7 _ O7.out); clear hf ho)
    | (go_at_call 25; (with_reducible refine (ptake_none _ _ _ _ _ _ _ _ _ _ _ 1 (F7.out _) (by decide) (by decide)).mono ?_); rintro e w8 ⟨rfl, hf, hb⟩; have F8 := Aside0.mk hf; have HB := Aside0.mk hb; clear hf hb; have e0 := fun o => ((below_step (below_step (below_alloc (Below.refl _ _) _) HB.out) (below_alloc (Below.refl _ _) o)).cell (p := ⟨b1, 0, none⟩) L7.out).trans O7.out; have x0 := fun o j => cell_of_row (w8.alloc o) w7.heap.size j _ _ _ (row_then (heap_alloc_new w7 _) (below_step HB.out (below_alloc (Below.refl _ _) o)))))
  go_ret
  exact ⟨rfl, below_step F8.out.1 (below_alloc (Below.refl _ _) _)⟩
end Go.Proofs.Ytiogbgjeimdgmaa.MmuWalk
