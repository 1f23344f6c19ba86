/- The fetch queue's Cycle, walked: a byte more, or a fault. -/
import Derived.Test.YtiogbgjeimdgmaaFetB
namespace Go.Proofs.Ytiogbgjeimdgmaa.MmuWalk
open Go.RowKit Go.Proofs.Ytiogbgjeimdgmaa.Aid Go.Proofs.YtiogbgjeimdgmaaW.PrintWords Go.Proofs.YtiogbgjeimdgmaaW.PrintLast Go.Proofs.YtiogbgjeimdgmaaW.PrintMore
open Go.Proofs.Ytiogbgjeimdgmaa.RamWalk (RamAt Bytes leN)
open Go.Proofs.Ytiogbgjeimdgmaa.TlbWalk (TlbAt Kept2 putP dropP posP entP nil2)
attribute [local go_sem] max2_int min2_int max_two min_two max_three min_three max_four min_four   -- for this text's walks alone
set_option linter.unusedVariables false
set_option linter.unusedSimpArgs false
theorem q_ne_ty {W : World} {base q m : Nat} {pc : Int} {u : Bool} {vb : Value} {bs : List Int} {f : Flt} (h : QAt W base q m pc u vb bs f) {base' : Nat} {L : Loc} {v : Value} {T : Tabs} {ps : List (Int × Int)} {l : List Int} (k : MmuAt W base' L v T ps l) (i : Nat) (hi : mine L v i) : i ≠ q := k.ne_ty h.blk (by unfold mTy; decide) i hi
theorem q_row_ne {W : World} {base q m : Nat} {pc : Int} {u : Bool} {vb : Value} {bs : List Int} {f : Flt} (h : QAt W base q m pc u vb bs f) {base' : Nat} {L : Loc} {v : Value} {T : Tabs} {ps : List (Int × Int)} {l : List Int} (k : MmuAt W base' L v T ps l) (sep : vb.ownBlock ≠ some L.b) (i : Nat) (hi : mine L v i) : vb.ownBlock ≠ some i := by
  intro e
  rcases h.row.2 with ⟨rfl, _⟩ | ⟨b, c, cur, rfl, hb, hh, _⟩
  · simp [Value.ownBlock] at e
  · simp only [Value.ownBlock, Option.some.injEq] at e
    subst e
    rcases hi with (hi | hi | hi | hi) | hi
    · rw [hi, k.blk] at hh; simp at hh
    · rw [hi, k.tlb.1] at hh; simp at hh
    · exact sep (by rw [← hi]; rfl)
    · rcases k.tlb.2.2.1.2 with ⟨rfl, _⟩ | ⟨b', c', cur', rfl, _, hh', _⟩
      · simp [Value.ownBlock] at hi
      · simp only [Value.ownBlock, Option.some.injEq] at hi
        subst hi
        rw [hh] at hh'; simp at hh'
    · rw [hi, k.ram.1] at hh; simp at hh
/-- The queue stays where the MMU alone is turned. -/
theorem QAt.mstep {W W' : World} {base q m : Nat} {pc : Int} {u : Bool} {vb : Value} {bs : List Int} {f : Flt} (h : QAt W base q m pc u vb bs f) {L : Loc} {v : Value} {T T' : Tabs} {ps ps' : List (Int × Int)} {l l' : List Int} (k : MmuAt W base L v T ps l) (sep : vb.ownBlock ≠ some L.b) (s : MStep W W' base L v T' ps' l') : QAt W' base q m pc u vb bs f :=
  h.keep fun i hi => s.chg.block i (by
    rcases hi with rfl | hi
    · exact h.lt
    · exact (h.rowlt i hi.symm).2.1) (fun c => by
    rcases hi with hi | hi
    · exact q_ne_ty h k i (.inl c) hi
    · exact q_row_ne h k sep i (.inl c) hi.symm)
/-- What a call leaves of an MMU and of a queue over it. -/
def FStep (w w' : World) (base : Nat) (L : Loc) (v : Value) (T : Tabs) (ps : List (Int × Int)) (l : List Int) (q : Nat) (vb : Value) (pc' : Int) (u' : Bool) (bs' : List Int) (f' : Flt) : Prop :=
  ∃ v' vb', MmuAt w' base L v' T ps l ∧ NextRow w v v' ∧ QAt w' base q L.m pc' u' vb' bs' f' ∧ NextRow w vb vb' ∧ vb'.ownBlock ≠ some L.b ∧ Chg (fun i => foot L v i ∨ qfoot q vb i) w w'
theorem mine_lt {W : World} {base : Nat} {L : Loc} {v : Value} {T : Tabs} {ps : List (Int × Int)} {l : List Int} (h : MmuAt W base L v T ps l) (i : Nat) (k : mine L v i) : i < W.heap.size := by
  obtain ⟨cs, ty, h', _⟩ := h.types i k
  exact (Array.getElem?_eq_some_iff.1 h').1
theorem FStep.of {w V w' : World} {base : Nat} {L : Loc} {v : Value} {T : Tabs} {ps : List (Int × Int)} {l : List Int} {q : Nat} {vb vb' : Value} {pc pc' : Int} {u u' : Bool} {bs bs' : List Int} {f f' : Flt} (s : MStep w V base L v T ps l) (hq : QAt V base q L.m pc u vb bs f) (sep : vb.ownBlock ≠ some L.b)
    (k : QAt w' base q L.m pc' u' vb' bs' f') (n : NextRow V vb vb') (c : Chg (qfoot q vb) V w') : FStep w w' base L v T ps l q vb pc' u' bs' f' := by
  obtain ⟨⟨v1, m1, n1⟩, c1⟩ := s
  refine ⟨v1, vb', m1.keep (fun i hi => c.block i (mine_lt m1 i hi) (fun e => ?_)), n1, k, n.up c1.size, ?_, ?_⟩
  · rcases e with e | e
    · exact q_ne_ty hq m1 i hi e
    · exact q_row_ne hq m1 sep i hi e.symm
  · intro e
    rcases n _ e with e | e
    · exact sep e
    · have := mine_lt m1 L.b (.inl (.inr (.inr (.inl rfl)))); omega
  · exact (c1.mono (fun i hi => .inl hi)).trans c (fun i _ hi => .inr hi)
theorem put3_chg (W : World) (g : Nat) (x y z : Value) : Chg (fun i => i = g) W (((W.setCell ⟨g, 0, none⟩ x).setCell ⟨g, 1, none⟩ y).setCell ⟨g, 2, none⟩ z) :=
  ⟨rfl, rfl, rfl, by simp [World.setCell], fun i hi hf => (Below.heap_setCell _ ⟨g, 2, none⟩ z i hf).trans ((Below.heap_setCell _ ⟨g, 1, none⟩ y i hf).trans (Below.heap_setCell W ⟨g, 0, none⟩ x i hf))⟩
theorem q_ne_box {W : World} {base q m : Nat} {pc : Int} {u : Bool} {vb : Value} {bs : List Int} {f : Flt} (h : QAt W base q m pc u vb bs f) {g : Nat} {cs : Array Value} {fr : Nat × Nat} (hg : W.heap[g]? = some (.cells cs 47 fr)) (i : Nat) (hi : i = q ∨ some i = vb.ownBlock) : i ≠ g := by
  rintro rfl
  rcases hi with rfl | hi
  · rw [h.blk] at hg; simp at hg
  · rcases h.row.2 with ⟨rfl, _⟩ | ⟨b, c, cur, rfl, _, hh, _⟩
    · simp [Value.ownBlock] at hi
    · simp only [Value.ownBlock, Option.some.injEq] at hi
      subst hi
      rw [hg] at hh; simp at hh
/-- A fault's box, made by the call itself, is filled. -/
theorem MStep.fill {w W : World} {base : Nat} {L : Loc} {v : Value} {T : Tabs} {ps : List (Int × Int)} {l : List Int} {g : Nat} {cs0 : Array Value} {fr : Nat × Nat} (s : MStep w W base L v T ps l) (hg : w.heap.size ≤ g) (hb : W.heap[g]? = some (.cells cs0 47 fr)) (x y z : Value) : MStep w (((W.setCell ⟨g, 0, none⟩ x).setCell ⟨g, 1, none⟩ y).setCell ⟨g, 2, none⟩ z) base L v T ps l := by
  have k := put3_chg W g x y z
  obtain ⟨⟨v1, m1, n1⟩, c1⟩ := s
  exact ⟨⟨v1, m1.keep (fun i hi => k.block i (mine_lt m1 i hi) (m1.ne_ty hb (by unfold mTy; decide) i hi)), n1⟩, c1.trans k (fun i hi e => by omega)⟩
theorem QAt.fill {W : World} {base q m : Nat} {pc : Int} {u : Bool} {vb : Value} {bs : List Int} {f : Flt} (h : QAt W base q m pc u vb bs f) {g : Nat} {cs0 : Array Value} {fr : Nat × Nat} (hb : W.heap[g]? = some (.cells cs0 47 fr)) (x y z : Value) : QAt (((W.setCell ⟨g, 0, none⟩ x).setCell ⟨g, 1, none⟩ y).setCell ⟨g, 2, none⟩ z) base q m pc u vb bs f :=
  h.keep fun i hi => (put3_chg W g x y z).block i (by
    rcases hi with rfl | hi
    · exact h.lt
    · exact (h.rowlt i hi.symm).2.1) (q_ne_box h hb i hi)
theorem fill_row {W : World} {g : Nat} {a b c : Value} (h : W.heap[g]? = some (.cells #[a, b, c] 47 (0, 0))) (x y z : Value) : (((W.setCell ⟨g, 0, none⟩ x).setCell ⟨g, 1, none⟩ y).setCell ⟨g, 2, none⟩ z).heap[g]? = some (.cells #[x, y, z] 47 (0, 0)) :=
  blk_put (blk_put (blk_put h 0 x rfl) 1 y rfl) 2 z rfl
theorem q_fault {W : World} {base q m : Nat} {pc : Int} {u : Bool} {vb : Value} {bs : List Int} {f : Flt} (h : QAt W base q m pc u vb bs f) (fk fv fi : Int) :
    QAt (((W.setCell ⟨q, 4, none⟩ (.int .i64 fk)).setCell ⟨q, 5, none⟩ (.int .u32 fv)).setCell ⟨q, 6, none⟩ (.int .u32 fi)) base q m pc u vb bs (fk, fv, fi) ∧ Chg (fun i => i = q) W (((W.setCell ⟨q, 4, none⟩ (.int .i64 fk)).setCell ⟨q, 5, none⟩ (.int .u32 fv)).setCell ⟨q, 6, none⟩ (.int .u32 fi)) := by
  obtain ⟨m4, k4⟩ := q_put h (pc' := pc) (u' := u) (f' := (fk, f.2.1, f.2.2)) 4 (.int .i64 fk) (blk_put h.blk 4 _ rfl)
  generalize W.setCell ⟨q, 4, none⟩ (.int .i64 fk) = W4 at *
  obtain ⟨m5, k5⟩ := q_put m4 (pc' := pc) (u' := u) (f' := (fk, fv, f.2.2)) 5 (.int .u32 fv) (blk_put m4.blk 5 _ rfl)
  generalize W4.setCell ⟨q, 5, none⟩ (.int .u32 fv) = W5 at *
  obtain ⟨m6, k6⟩ := q_put m5 (pc' := pc) (u' := u) (f' := (fk, fv, fi)) 6 (.int .u32 fi) (blk_put m5.blk 6 _ rfl)
  exact ⟨m6, (k4.trans k5 (fun i _ h => h)).trans k6 (fun i _ h => h)⟩
/-- Behind an append: the queue's cells, and what it is when the row and the place are stored. -/
theorem q_append {W W1 : World} {base q m : Nat} {pc : Int} {u : Bool} {vb v1 : Value} {bs bs' : List Int} {f : Flt} (h : QAt W base q m pc u vb bs f) {n : Nat} (hl : bs'.length = n) (ho : W1.ownsRow base 5 1 v1 n (nums .u8 bs')) (hg : W.grownBy W1 vb.ownBlock)
    (hat : v1.ownBlock = vb.ownBlock ∨ ∃ b, v1.ownBlock = some b ∧ W.heap.size ≤ b) (pc' : Int) :
    W1.cell? ⟨q, 1, none⟩ = some (.int .u32 pc) ∧ W1.cell? ⟨q, 3, none⟩ = some vb ∧ W1.frozen? ⟨q, 1, none⟩ = false ∧ W1.frozen? ⟨q, 3, none⟩ = false ∧ (W1.setCell ⟨q, 3, none⟩ v1).cell? ⟨q, 1, none⟩ = some (.int .u32 pc) ∧
    QAt ((W1.setCell ⟨q, 3, none⟩ v1).setCell ⟨q, 1, none⟩ (.int .u32 pc')) base q m pc' u v1 bs' f ∧ NextRow W vb v1 ∧ Chg (qfoot q vb) W ((W1.setCell ⟨q, 3, none⟩ v1).setCell ⟨q, 1, none⟩ (.int .u32 pc')) := by
  subst hl
  have hne : some q ≠ vb.ownBlock := fun e => (h.rowlt q e.symm).2.2 rfl
  have hb : W1.heap[q]? = some (.cells (qCells m pc u vb f) 109 (0, 0)) := (hg.block q h.lt hne).trans h.blk
  have hv : v1.ownBlock ≠ some q := by
    intro e
    rcases hat with k | ⟨b, k, hb'⟩
    · exact hne (by rw [← k, e])
    · rw [e] at k
      simp only [Option.some.injEq] at k
      have := h.lt
      omega
  have hb3 : (W1.setCell ⟨q, 3, none⟩ v1).heap[q]? = some (.cells (qCells m pc u v1 f) 109 (0, 0)) := blk_put hb 3 v1 rfl
  have k3 : QAt (W1.setCell ⟨q, 3, none⟩ v1) base q m pc u v1 bs' f := ⟨hb3, h.ge, ownsRow_setCell_other ho hv _⟩
  obtain ⟨k1, g1⟩ := q_put k3 (pc' := pc') (u' := u) (f' := f) 1 (.int .u32 pc') (blk_put hb3 1 _ rfl)
  refine ⟨cell_of_row _ _ 1 _ _ _ hb, cell_of_row _ _ 3 _ _ _ hb, frozen_of_row _ _ 1 _ _ hb, frozen_of_row _ _ 3 _ _ hb, cell_of_row _ _ 1 _ _ _ hb3, k1, NextRow.of_or hat, ?_⟩
  have g0 : Chg (qfoot q vb) W (W1.setCell ⟨q, 3, none⟩ v1) := ⟨hg.os, hg.tape, hg.output, by simpa [World.setCell] using hg.size, fun i hi hf => (Below.heap_setCell W1 ⟨q, 3, none⟩ v1 i (fun e => hf (.inl e))).trans (hg.block i hi (fun e => hf (.inr e)))⟩
  exact g0.trans g1 (fun i _ e => .inl e)
theorem infoB : (Try.prog.info? 5).map (fun i => (i.zero, i.size, i.bytes)) = some (some (.int .u8 0), 1, 1) := by kernel_rfl
set_option maxRecDepth 100000 in
set_option maxHeartbeats 4000000 in
theorem cycle_flt (w : World) (base q : Nat) (L : Loc) (v : Value) (T : Tabs) (ps : List (Int × Int)) (l : List Int) (pc : Int) (u : Bool) (A : Option Addr) (c : Nat) (bs : List Int) (hm : MmuAt w base L v T ps l) (h : QAt w base q L.m pc u (.slice A bs.length c) bs noF)
    (hn : bs.length < 16) (sep : (Value.slice A bs.length c).ownBlock ≠ some L.b) (fk fv fi : Int) (hk : (fk == 0) = false)
    (PK : Aside0 (∀ W v', MmuAt W base L v' T ps l → Calls Try.prog 32 #[.pointer (some ⟨L.m, 0, none⟩), .int .u32 pc, .bool u] W fun e w' => e = .returned (.tuple #[.int .u8 0, .agg #[.int .i64 fk, .int .u32 fv, .int .u32 fi]]) ∧ MStep W w' base L v' T ps l)) :
    Calls Try.prog 23 #[.pointer (some ⟨q, 0, none⟩)] w fun e w' => e = .returned (.tuple #[]) ∧ FStep w w' base L v T ps l q (.slice A bs.length c) pc u bs (fk, fv, fi) := by
  have c3 : w.cell? ⟨q, 3, none⟩ = some (.slice A bs.length c) := h.cell 3
  have c4 : w.cell? ⟨q, 4, none⟩ = some (.int .i64 0) := h.cell 4
  have c5 : w.cell? ⟨q, 5, none⟩ = some (.int .u32 0) := h.cell 5
  have c6 : w.cell? ⟨q, 6, none⟩ = some (.int .u32 0) := h.cell 6
  have hn' : ¬ (16 : Int) ≤ bs.length := by omega
  have hS : Aside0 (∀ W, Below w.heap.size w W → W.cell? ⟨q, 0, none⟩ = some (.pointer (some ⟨L.m, 0, none⟩)) ∧ W.cell? ⟨q, 1, none⟩ = some (.int .u32 pc) ∧ W.cell? ⟨q, 2, none⟩ = some (.bool u)) := ⟨fun W hW => ⟨(h.then hW).cell 0, (h.then hW).cell 1, (h.then hW).cell 2⟩⟩
  have M := Aside0.mk hm
  have Q := Aside0.mk h
  have SEP := Aside0.mk sep
  have HN := Aside0.mk hn
  have hS0 := hS.out w (Below.refl _ _)
  clear h hm sep
  go_enter Try.func23, Try.ntmps23
  go_wp2
  go_region_held3 (fun W => W.cell? ⟨q, 0, none⟩ = some (.pointer (some ⟨L.m, 0, none⟩)) ∧ W.cell? ⟨q, 1, none⟩ = some (.int .u32 pc) ∧ W.cell? ⟨q, 2, none⟩ = some (.bool u))
    (first | exact hS.out _ (by assumption) | exact hS.out _ ((Below.refl _ _).drew) | exact hS.out _ (below_alloc ((Below.refl _ _).drew) _) | exact hS.out _ ((below_alloc (Below.refl _ _) _).drew) | exact hS2.out _ (Below.refl _ _) | exact hS2.out _ (below_alloc (Below.refl _ _) _) | exact hS4.out)
    (first
    | (go_at_call 32; (with_reducible refine (PK.out _ _ (M.out.then ((Below.refl _ _).drew))).mono ?_); rintro e w1 ⟨rfl, s⟩; have S1 := Aside0.mk (MStep.after ((Below.refl _ _).drew) s); have Q1 := Aside0.mk (Q.out.mstep M.out SEP.out S1.out); have hS2 : Aside0 (∀ W, Below w1.heap.size w1 W → W.cell? ⟨q, 0, none⟩ = some (.pointer (some ⟨L.m, 0, none⟩)) ∧ W.cell? ⟨q, 1, none⟩ = some (.int .u32 pc) ∧ W.cell? ⟨q, 2, none⟩ = some (.bool u)) := ⟨fun W hW => ⟨(Q1.out.then hW).cell 0, (Q1.out.then hW).cell 1, (Q1.out.then hW).cell 2⟩⟩; clear s)
    | (go_at_call 32; (with_reducible refine (PK.out _ _ (M.out.then ((below_alloc (Below.refl _ _) _).drew))).mono ?_); rintro e w1 ⟨rfl, s⟩; have S1 := Aside0.mk (MStep.after ((below_alloc (Below.refl _ _) _).drew) s); have Q1 := Aside0.mk (Q.out.mstep M.out SEP.out S1.out); have hS2 : Aside0 (∀ W, Below w1.heap.size w1 W → W.cell? ⟨q, 0, none⟩ = some (.pointer (some ⟨L.m, 0, none⟩)) ∧ W.cell? ⟨q, 1, none⟩ = some (.int .u32 pc) ∧ W.cell? ⟨q, 2, none⟩ = some (.bool u)) := ⟨fun W hW => ⟨(Q1.out.then hW).cell 0, (Q1.out.then hW).cell 1, (Q1.out.then hW).cell 2⟩⟩; have X1 := Aside0.mk (box_keep M.out (V := (w.alloc (.cells #[.int .i64 0, .int .u32 0, .int .u32 0] 47 (0, 0))).drew) (heap_alloc_new w _) (Nat.le_refl _) s); have y0 := cell_of_row _ _ 0 _ _ _ X1.out; have y1 := cell_of_row _ _ 1 _ _ _ X1.out; have y2 := cell_of_row _ _ 2 _ _ _ X1.out; have g0 := frozen_of_row _ _ 0 _ _ X1.out; have g1 := frozen_of_row _ _ 1 _ _ X1.out; have g2 := frozen_of_row _ _ 2 _ _ X1.out; simp only [List.getElem?_toArray, List.getElem?_cons_zero, List.getElem?_cons_succ] at y0 y1 y2; have Q4 := Aside0.mk (Q1.out.fill X1.out (.int .i64 fk) (.int .u32 fv) (.int .u32 fi)); have hS4 : Aside0 ((((w1.setCell ⟨w.heap.size, 0, none⟩ (.int .i64 fk)).setCell ⟨w.heap.size, 1, none⟩ (.int .u32 fv)).setCell ⟨w.heap.size, 2, none⟩ (.int .u32 fi)).cell? ⟨q, 0, none⟩ = some (.pointer (some ⟨L.m, 0, none⟩)) ∧ (((w1.setCell ⟨w.heap.size, 0, none⟩ (.int .i64 fk)).setCell ⟨w.heap.size, 1, none⟩ (.int .u32 fv)).setCell ⟨w.heap.size, 2, none⟩ (.int .u32 fi)).cell? ⟨q, 1, none⟩ = some (.int .u32 pc) ∧ (((w1.setCell ⟨w.heap.size, 0, none⟩ (.int .i64 fk)).setCell ⟨w.heap.size, 1, none⟩ (.int .u32 fv)).setCell ⟨w.heap.size, 2, none⟩ (.int .u32 fi)).cell? ⟨q, 2, none⟩ = some (.bool u)) := ⟨⟨Q4.out.cell 0, Q4.out.cell 1, Q4.out.cell 2⟩⟩; clear s))
  rotate_left 1
  · have V1 := Aside0.mk (S1.out.fill (Nat.le_refl _) X1.out (.int .i64 fk) (.int .u32 fv) (.int .u32 fi))
    have R1 := Aside0.mk (fill_row X1.out (.int .i64 fk) (.int .u32 fv) (.int .u32 fi))
    have Q5 := Q4
    clear hS4 hS2 Q4
    generalize (((w1.setCell ⟨w.heap.size, 0, none⟩ (.int .i64 fk)).setCell ⟨w.heap.size, 1, none⟩ (.int .u32 fv)).setCell ⟨w.heap.size, 2, none⟩ (.int .u32 fi)) = V at *
    generalize hb3 : w.heap.size = b3 at *
    clear hb3
    have z0 := cell_of_row _ _ 0 _ _ _ R1.out
    have z1 := cell_of_row _ _ 1 _ _ _ R1.out
    have z2 := cell_of_row _ _ 2 _ _ _ R1.out
    have p4 := Q5.out.cell 4
    have p5 := Q5.out.cell 5
    have p6 := Q5.out.cell 6
    have f4 := Q5.out.free 4
    have f5 := Q5.out.free 5
    have f6 := Q5.out.free 6
    simp only [qCells, noF, List.getElem?_toArray, List.getElem?_cons_zero, List.getElem?_cons_succ] at z0 z1 z2 p4 p5 p6
    have E := Aside0.mk (q_fault Q5.out fk fv fi)
    go_wp2
    first | go_end0 | refine bodyPost_ret (results_none rfl _ _ _) rfl ?_
    exact ⟨rfl, FStep.of V1.out Q5.out SEP.out E.out.1 (NextRow.same _ _) (E.out.2.mono (fun i hi => .inl hi))⟩
  · have V1 := Aside0.mk (S1.out.then (below_alloc (Below.refl _ _) (.cells #[.int .i64 fk, .int .u32 fv, .int .u32 fi] 47 (0, 0))))
    have R1 := Aside0.mk (heap_alloc_new w1 (.cells #[.int .i64 fk, .int .u32 fv, .int .u32 fi] 47 (0, 0)))
    have Q5 := Aside0.mk (Q1.out.then (below_alloc (Below.refl _ _) (.cells #[.int .i64 fk, .int .u32 fv, .int .u32 fi] 47 (0, 0))))
    clear hS2
    generalize w1.alloc (.cells #[.int .i64 fk, .int .u32 fv, .int .u32 fi] 47 (0, 0)) = V at *
    have z0 := cell_of_row _ _ 0 _ _ _ R1.out
    have z1 := cell_of_row _ _ 1 _ _ _ R1.out
    have z2 := cell_of_row _ _ 2 _ _ _ R1.out
    have p4 := Q5.out.cell 4
    have p5 := Q5.out.cell 5
    have p6 := Q5.out.cell 6
    have f4 := Q5.out.free 4
    have f5 := Q5.out.free 5
    have f6 := Q5.out.free 6
    simp only [qCells, noF, List.getElem?_toArray, List.getElem?_cons_zero, List.getElem?_cons_succ] at z0 z1 z2 p4 p5 p6
    have E := Aside0.mk (q_fault Q5.out fk fv fi)
    go_wp2
    first | go_end0 | refine bodyPost_ret (results_none rfl _ _ _) rfl ?_
    exact ⟨rfl, FStep.of V1.out Q5.out SEP.out E.out.1 (NextRow.same _ _) (E.out.2.mono (fun i hi => .inl hi))⟩
set_option maxRecDepth 100000 in
set_option maxHeartbeats 4000000 in
theorem cycle_byte (w : World) (base q : Nat) (L : Loc) (v : Value) (T : Tabs) (ps : List (Int × Int)) (l : List Int) (pc : Int) (u : Bool) (A : Option Addr) (c : Nat) (bs : List Int) (hm : MmuAt w base L v T ps l) (h : QAt w base q L.m pc u (.slice A bs.length c) bs noF)
    (hn : bs.length < 16) (sep : (Value.slice A bs.length c).ownBlock ≠ some L.b) (y : Int)
    (PK : Aside0 (∀ W v', MmuAt W base L v' T ps l → Calls Try.prog 32 #[.pointer (some ⟨L.m, 0, none⟩), .int .u32 pc, .bool u] W fun e w' => e = .returned (.tuple #[.int .u8 y, .agg #[.int .i64 0, .int .u32 0, .int .u32 0]]) ∧ MStep W w' base L v' T ps l)) :
    Calls Try.prog 23 #[.pointer (some ⟨q, 0, none⟩)] w fun e w' => e = .returned (.tuple #[]) ∧ FStep w w' base L v T ps l q (.slice A bs.length c) ((pc + 1) % 4294967296) u (bs ++ [y]) noF := by
  have c3 : w.cell? ⟨q, 3, none⟩ = some (.slice A bs.length c) := h.cell 3
  have c4 : w.cell? ⟨q, 4, none⟩ = some (.int .i64 0) := h.cell 4
  have c5 : w.cell? ⟨q, 5, none⟩ = some (.int .u32 0) := h.cell 5
  have c6 : w.cell? ⟨q, 6, none⟩ = some (.int .u32 0) := h.cell 6
  have hn' : ¬ (16 : Int) ≤ bs.length := by omega
  have hS : Aside0 (∀ W, Below w.heap.size w W → W.cell? ⟨q, 0, none⟩ = some (.pointer (some ⟨L.m, 0, none⟩)) ∧ W.cell? ⟨q, 1, none⟩ = some (.int .u32 pc) ∧ W.cell? ⟨q, 2, none⟩ = some (.bool u)) := ⟨fun W hW => ⟨(h.then hW).cell 0, (h.then hW).cell 1, (h.then hW).cell 2⟩⟩
  have M := Aside0.mk hm
  have Q := Aside0.mk h
  have SEP := Aside0.mk sep
  have HN := Aside0.mk hn
  have hS0 := hS.out w (Below.refl _ _)
  clear h hm sep
  go_enter Try.func23, Try.ntmps23
  go_wp2
  go_region_held3 (fun W => W.cell? ⟨q, 0, none⟩ = some (.pointer (some ⟨L.m, 0, none⟩)) ∧ W.cell? ⟨q, 1, none⟩ = some (.int .u32 pc) ∧ W.cell? ⟨q, 2, none⟩ = some (.bool u))
    (first | exact hS.out _ (by assumption) | exact hS.out _ ((Below.refl _ _).drew) | exact hS.out _ (below_alloc ((Below.refl _ _).drew) _) | exact hS.out _ ((below_alloc (Below.refl _ _) _).drew) | exact hS2.out _ (Below.refl _ _) | exact hS2.out _ (below_alloc (Below.refl _ _) _) | exact hS4.out)
    (first
    | (go_at_call 32; (with_reducible refine (PK.out _ _ (M.out.then ((Below.refl _ _).drew))).mono ?_); rintro e w1 ⟨rfl, s⟩; have S1 := Aside0.mk (MStep.after ((Below.refl _ _).drew) s); have Q1 := Aside0.mk (Q.out.mstep M.out SEP.out S1.out); have hS2 : Aside0 (∀ W, Below w1.heap.size w1 W → W.cell? ⟨q, 0, none⟩ = some (.pointer (some ⟨L.m, 0, none⟩)) ∧ W.cell? ⟨q, 1, none⟩ = some (.int .u32 pc) ∧ W.cell? ⟨q, 2, none⟩ = some (.bool u)) := ⟨fun W hW => ⟨(Q1.out.then hW).cell 0, (Q1.out.then hW).cell 1, (Q1.out.then hW).cell 2⟩⟩; clear s)
    | (go_at_call 32; (with_reducible refine (PK.out _ _ (M.out.then ((below_alloc (Below.refl _ _) _).drew))).mono ?_); rintro e w1 ⟨rfl, s⟩; have S1 := Aside0.mk (MStep.after ((below_alloc (Below.refl _ _) _).drew) s); have Q1 := Aside0.mk (Q.out.mstep M.out SEP.out S1.out); have hS2 : Aside0 (∀ W, Below w1.heap.size w1 W → W.cell? ⟨q, 0, none⟩ = some (.pointer (some ⟨L.m, 0, none⟩)) ∧ W.cell? ⟨q, 1, none⟩ = some (.int .u32 pc) ∧ W.cell? ⟨q, 2, none⟩ = some (.bool u)) := ⟨fun W hW => ⟨(Q1.out.then hW).cell 0, (Q1.out.then hW).cell 1, (Q1.out.then hW).cell 2⟩⟩; have X1 := Aside0.mk (box_keep M.out (V := (w.alloc (.cells #[.int .i64 0, .int .u32 0, .int .u32 0] 47 (0, 0))).drew) (heap_alloc_new w _) (Nat.le_refl _) s); have y0 := cell_of_row _ _ 0 _ _ _ X1.out; have y1 := cell_of_row _ _ 1 _ _ _ X1.out; have y2 := cell_of_row _ _ 2 _ _ _ X1.out; have g0 := frozen_of_row _ _ 0 _ _ X1.out; have g1 := frozen_of_row _ _ 1 _ _ X1.out; have g2 := frozen_of_row _ _ 2 _ _ X1.out; simp only [List.getElem?_toArray, List.getElem?_cons_zero, List.getElem?_cons_succ] at y0 y1 y2; have Q4 := Aside0.mk (Q1.out.fill X1.out (.int .i64 0) (.int .u32 0) (.int .u32 0)); have hS4 : Aside0 ((((w1.setCell ⟨w.heap.size, 0, none⟩ (.int .i64 0)).setCell ⟨w.heap.size, 1, none⟩ (.int .u32 0)).setCell ⟨w.heap.size, 2, none⟩ (.int .u32 0)).cell? ⟨q, 0, none⟩ = some (.pointer (some ⟨L.m, 0, none⟩)) ∧ (((w1.setCell ⟨w.heap.size, 0, none⟩ (.int .i64 0)).setCell ⟨w.heap.size, 1, none⟩ (.int .u32 0)).setCell ⟨w.heap.size, 2, none⟩ (.int .u32 0)).cell? ⟨q, 1, none⟩ = some (.int .u32 pc) ∧ (((w1.setCell ⟨w.heap.size, 0, none⟩ (.int .i64 0)).setCell ⟨w.heap.size, 1, none⟩ (.int .u32 0)).setCell ⟨w.heap.size, 2, none⟩ (.int .u32 0)).cell? ⟨q, 2, none⟩ = some (.bool u)) := ⟨⟨Q4.out.cell 0, Q4.out.cell 1, Q4.out.cell 2⟩⟩; clear s))
  rotate_left 1
  · have V1 := Aside0.mk (S1.out.fill (Nat.le_refl _) X1.out (.int .i64 0) (.int .u32 0) (.int .u32 0))
    have R1 := Aside0.mk (fill_row X1.out (.int .i64 0) (.int .u32 0) (.int .u32 0))
    have Q5 := Q4
    clear hS4 hS2 Q4
    generalize (((w1.setCell ⟨w.heap.size, 0, none⟩ (.int .i64 0)).setCell ⟨w.heap.size, 1, none⟩ (.int .u32 0)).setCell ⟨w.heap.size, 2, none⟩ (.int .u32 0)) = V at *
    generalize hb3 : w.heap.size = b3 at *
    clear hb3
    have z0 := cell_of_row _ _ 0 _ _ _ R1.out
    have z1 := cell_of_row _ _ 1 _ _ _ R1.out
    have z2 := cell_of_row _ _ 2 _ _ _ R1.out
    have p1 := Q5.out.cell 1
    have p3 := Q5.out.cell 3
    have f1 := Q5.out.free 1
    have f3 := Q5.out.free 3
    simp only [qCells, noF, List.getElem?_toArray, List.getElem?_cons_zero, List.getElem?_cons_succ] at z0 z1 z2 p1 p3
    have hq1 := Q5.out.lt
    have hq2 : ¬ q = V.heap.size := by omega
    have hge : base ≤ V.heap.size := by have := Q5.out.ge; omega
    have HG := Aside0.mk hge
    clear hge hq1 c3 c4 c5 c6
    go_wp2_with (first
      | (at_builtin; refine print_append_num (w0 := V) base rfl (.tmp 49) (.tmp 51) 22 5 .u8 1 rfl Try.underlying22 infoB (by decide) (.slice A bs.length c) bs y rfl rfl Q5.out.row (Below.refl _ _) HG.out (by have := HN.out; omega) ?_; intro v1 w2 ho hb hg hat; rw [show (bs ++ [y]).length = bs.length + 1 from by simp] at ho; obtain ⟨A9, c9, rfl⟩ := Go.Proofs.Ytiogbgjeimdgmaa.TlbWalk.own_val ho; have E := Aside0.mk (q_append Q5.out (bs' := bs ++ [y]) (by simp) ho hg hat ((pc + 1) % 4294967296)); have p1' := E.out.1; have p3' := E.out.2.1; have f1' := E.out.2.2.1; have f3' := E.out.2.2.2.1; have c1' := E.out.2.2.2.2.1; clear ho hb hg hat))
    first | go_end0 | refine bodyPost_ret (results_none rfl _ _ _) rfl ?_
    exact ⟨rfl, FStep.of V1.out Q5.out SEP.out E.out.2.2.2.2.2.1 E.out.2.2.2.2.2.2.1 E.out.2.2.2.2.2.2.2⟩
  · have V1 := Aside0.mk (S1.out.then (below_alloc (Below.refl _ _) (.cells #[.int .i64 0, .int .u32 0, .int .u32 0] 47 (0, 0))))
    have R1 := Aside0.mk (heap_alloc_new w1 (.cells #[.int .i64 0, .int .u32 0, .int .u32 0] 47 (0, 0)))
    have Q5 := Aside0.mk (Q1.out.then (below_alloc (Below.refl _ _) (.cells #[.int .i64 0, .int .u32 0, .int .u32 0] 47 (0, 0))))
    clear hS2
    generalize w1.alloc (.cells #[.int .i64 0, .int .u32 0, .int .u32 0] 47 (0, 0)) = V at *
    have z0 := cell_of_row _ _ 0 _ _ _ R1.out
    have z1 := cell_of_row _ _ 1 _ _ _ R1.out
    have z2 := cell_of_row _ _ 2 _ _ _ R1.out
    have p1 := Q5.out.cell 1
    have p3 := Q5.out.cell 3
    have f1 := Q5.out.free 1
    have f3 := Q5.out.free 3
    simp only [qCells, noF, List.getElem?_toArray, List.getElem?_cons_zero, List.getElem?_cons_succ] at z0 z1 z2 p1 p3
    have hq1 := Q5.out.lt
    have hq2 : ¬ q = V.heap.size := by omega
    have hge : base ≤ V.heap.size := by have := Q5.out.ge; omega
    have HG := Aside0.mk hge
    clear hge hq1 c3 c4 c5 c6
    go_wp2_with (first
      | (at_builtin; refine print_append_num (w0 := V) base rfl (.tmp 49) (.tmp 51) 22 5 .u8 1 rfl Try.underlying22 infoB (by decide) (.slice A bs.length c) bs y rfl rfl Q5.out.row (Below.refl _ _) HG.out (by have := HN.out; omega) ?_; intro v1 w2 ho hb hg hat; rw [show (bs ++ [y]).length = bs.length + 1 from by simp] at ho; obtain ⟨A9, c9, rfl⟩ := Go.Proofs.Ytiogbgjeimdgmaa.TlbWalk.own_val ho; have E := Aside0.mk (q_append Q5.out (bs' := bs ++ [y]) (by simp) ho hg hat ((pc + 1) % 4294967296)); have p1' := E.out.1; have p3' := E.out.2.1; have f1' := E.out.2.2.1; have f3' := E.out.2.2.2.1; have c1' := E.out.2.2.2.2.1; clear ho hb hg hat))
    first | go_end0 | refine bodyPost_ret (results_none rfl _ _ _) rfl ?_
    exact ⟨rfl, FStep.of V1.out Q5.out SEP.out E.out.2.2.2.2.2.1 E.out.2.2.2.2.2.2.1 E.out.2.2.2.2.2.2.2⟩
end Go.Proofs.Ytiogbgjeimdgmaa.MmuWalk
