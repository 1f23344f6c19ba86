/- The lines' functions of layer 22, walked: the queue's Push, Pop. -/
import Derived.Test.YtbgcbnlpjjhmhaaLinesA
namespace Go.Proofs.Ytbgcbnlpjjhmhaa.LinesWalk
open Go.RowKit Go.Proofs.Ytbgcbnlpjjhmhaa.Aid Go.Proofs.YtbgcbnlpjjhmhaaW.PrintWords Go.Proofs.YtbgcbnlpjjhmhaaW.PrintLast Go.Proofs.YtbgcbnlpjjhmhaaW.PrintMore Go.Proofs.Ytbgcbnlpjjhmhaa.HeapLaw
attribute [local go_sem] max2_int min2_int max_two min_two max_three min_three max_four min_four   -- for this text's walks alone
set_option linter.unusedVariables false
set_option linter.unusedSimpArgs false
theorem step_append_run {P : Program} {ops : Array Oper} {o : Oper} {a : Act} {w : World} {K : Act → World → Prop} {Q : Exit → Act → World → Prop} {E : Prop}
    (hg : o.guard = none) (s x : Operand) (t : TypeId) (hop : o.op = Op.call { callee := Callee.builtin Builtin.append, args := #[s, x], argTypes := #[t, t] })
    (vs vx v : Value) (w' : World) (hs : a.eval s = vs) (hx : a.eval x = vx) (hrun : (Builtin.append_ #[t, t] o.type #[vs, vx]).run P w = .ok v w') (hK : K (a.put o.dst v) w') :
    if Region.wanted o (yielded ops a.tmps) = true then Oper.wp P o a w K Q else E := by
  have hw : Region.wanted o (yielded ops a.tmps) = true := by simp [Region.wanted, hg]
  rw [if_pos hw]
  unfold Oper.wp
  simp [execOp, hop, resolve, invoke, builtin, hs, hx, hrun, Result.andThen]
  exact hK
theorem assertE (w : World) (v : Value) : (Instr.typeAssert (.iface 88 v) 20 88 false).run Try.prog w = .ok v w := by kernel_rfl
/-- The row of entries behind a pointer. -/
structure QAt (W : World) (base g : Nat) (v : Value) (q : List Ent) (rest : List Value) : Prop where
  blk : W.heap[g]? = some (.cells (v :: rest).toArray 84 (0, 0))
  ge : base ≤ g
  row : QRow W base v q
  len : q.length ≤ 4096
theorem QAt.lt {W : World} {base g : Nat} {v : Value} {q : List Ent} {rest : List Value} (h : QAt W base g v q rest) : g < W.heap.size := (Array.getElem?_eq_some_iff.1 h.blk).1
theorem QAt.field {W : World} {base g : Nat} {v : Value} {q : List Ent} {rest : List Value} (h : QAt W base g v q rest) : W.cell? ⟨g, 0, none⟩ = some v := by
  have := cell_of_row W g 0 _ _ _ h.blk
  rw [this]; simp
theorem QAt.free {W : World} {base g : Nat} {v : Value} {q : List Ent} {rest : List Value} (h : QAt W base g v q rest) (j : Nat) : W.frozen? ⟨g, j, none⟩ = false := frozen_of_row W g j _ _ h.blk
theorem own_then {W W' : World} {base e s n : Nat} {v : Value} {xs : List Value} (h : W.ownsRow base e s v n xs) (k : Below W.heap.size W W') : W'.ownsRow base e s v n xs := by
  refine h.kept (row := none) ⟨k.os, k.tape, k.output, k.size, fun i hi _ => k.block i hi⟩ ?_
  cases v.ownBlock with
  | none => exact .inl rfl
  | some b => exact .inr (by simp)
theorem own_some {W : World} {base e s n : Nat} {v : Value} {xs : List Value} (h : W.ownsRow base e s v (n + 1) xs) : ∃ b c, v = .slice (some ⟨b, 0, none⟩) (n + 1) c := by
  rcases h.2 with ⟨_, h0⟩ | ⟨b, c, cur, rfl, _⟩
  · omega
  · exact ⟨b, c, rfl⟩
theorem own_row {W : World} {base e s n : Nat} {v : Value} {xs : List Value} (h : W.ownsRow base e s v n xs) : ∀ k, v.ownBlock = some k → base ≤ k ∧ k < W.heap.size := fun k hk => ⟨own_base h k hk, own_lt h k hk⟩
theorem QAt.ne {W : World} {base g : Nat} {v : Value} {q : List Ent} {rest : List Value} (h : QAt W base g v q rest) : v.ownBlock ≠ some g := by
  intro e
  rcases h.row.2 with ⟨rfl, _⟩ | ⟨b, c, cur, rfl, hb, hh, _⟩
  · simp [Value.ownBlock] at e
  · simp only [Value.ownBlock, Option.some.injEq] at e
    subst e
    have := h.blk
    rw [this] at hh
    simp at hh
/-- Of what was there, blocks g and row alone may have turned. -/
structure Kept2 (w w' : World) (g : Nat) (row : Option Nat) : Prop where
  os : w'.os = w.os
  tape : w'.tape = w.tape
  output : w'.output = w.output
  size : w.heap.size ≤ w'.heap.size
  block : ∀ k, k < w.heap.size → k ≠ g → some k ≠ row → w'.heap[k]? = w.heap[k]?
theorem Kept2.of_below {w w' : World} (h : Below w.heap.size w w') (g : Nat) (row : Option Nat) : Kept2 w w' g row := ⟨h.os, h.tape, h.output, h.size, fun k hk _ _ => h.block k hk⟩
theorem Kept2.grown {w w1 w2 : World} {g : Nat} {row row' : Option Nat} (h : Kept2 w w1 g row) (k : w1.grownBy w2 row') (hr : row' = row ∨ ∀ b, row' = some b → w.heap.size ≤ b) : Kept2 w w2 g row := by
  refine ⟨k.os.trans h.os, k.tape.trans h.tape, k.output.trans h.output, Nat.le_trans h.size k.size, fun i hi h1 h2 => (k.block i (Nat.lt_of_lt_of_le hi h.size) ?_).trans (h.block i hi h1 h2)⟩
  rcases hr with rfl | hr
  · exact h2
  · intro e
    have := hr i e.symm
    omega
theorem Kept2.set {w w1 : World} {g : Nat} {row : Option Nat} (h : Kept2 w w1 g row) (j : Nat) (u : Value) : Kept2 w (w1.setCell ⟨g, j, none⟩ u) g row :=
  ⟨h.os, h.tape, h.output, by simpa [World.setCell] using h.size, fun i hi h1 h2 => (Below.heap_setCell w1 ⟨g, j, none⟩ u i h1).trans (h.block i hi h1 h2)⟩
theorem Kept2.trans {w w1 w2 : World} {g : Nat} {row row' : Option Nat} (h : Kept2 w w1 g row) (k : Kept2 w1 w2 g row') (hr : row' = row ∨ ∀ b, row' = some b → w.heap.size ≤ b) : Kept2 w w2 g row := by
  refine ⟨k.os.trans h.os, k.tape.trans h.tape, k.output.trans h.output, Nat.le_trans h.size k.size, fun i hi h1 h2 => (k.block i (Nat.lt_of_lt_of_le hi h.size) h1 ?_).trans (h.block i hi h1 h2)⟩
  rcases hr with rfl | hr
  · exact h2
  · intro e
    have := hr i e.symm
    omega
theorem Kept2.below {w0 w w' : World} {g : Nat} {row : Option Nat} (h : Kept2 w w' g row) (b : Below w0.heap.size w0 w) (hg : w0.heap.size ≤ g) (hr : ∀ k, row = some k → w0.heap.size ≤ k) : Below w0.heap.size w0 w' :=
  ⟨h.os.trans b.os, h.tape.trans b.tape, h.output.trans b.output, Nat.le_trans b.size h.size, fun i hi => (h.block i (Nat.lt_of_lt_of_le hi b.size) (by omega) (fun e => by have := hr i e.symm; omega)).trans (b.block i hi)⟩
theorem Kept2.drew {w w' : World} {g : Nat} {row : Option Nat} (h : Kept2 w w' g row) : Kept2 w w'.drew g row := ⟨h.os, h.tape, h.output, h.size, h.block⟩
theorem Kept2.drewN {w w' : World} {g : Nat} {row : Option Nat} (h : Kept2 w w' g row) (m : Nat) : Kept2 w (w'.drewN m) g row := ⟨h.os, h.tape, h.output, h.size, h.block⟩
/-- What a call leaves of a queue: its row is the old one, or a new one. -/
def NewRow (w : World) (v v' : Value) : Prop := v'.ownBlock = v.ownBlock ∨ ∃ b, v'.ownBlock = some b ∧ w.heap.size ≤ b
theorem NewRow.trans {w w1 : World} {v v1 v2 : Value} (h : NewRow w v v1) (k : NewRow w1 v1 v2) (hs : w.heap.size ≤ w1.heap.size) : NewRow w v v2 := by
  rcases k with k | ⟨b, k, hb⟩
  · rcases h with h | ⟨b, h, hb⟩
    · exact .inl (k.trans h)
    · exact .inr ⟨b, k.trans h, hb⟩
  · exact .inr ⟨b, k, Nat.le_trans hs hb⟩
theorem NewRow.row {w : World} {v v' : Value} (h : NewRow w v v') : v'.ownBlock = v.ownBlock ∨ ∀ b, v'.ownBlock = some b → w.heap.size ≤ b := by
  rcases h with h | ⟨b, h, hb⟩
  · exact .inl h
  · exact .inr fun k hk => by rw [h] at hk; simp only [Option.some.injEq] at hk; omega
def QPost (w w' : World) (base g : Nat) (v : Value) (q : List Ent) (rest : List Value) : Prop := ∃ v', QAt w' base g v' q rest ∧ Kept2 w w' g v.ownBlock ∧ NewRow w v v'
theorem QPost.of_below {w w' : World} {base g : Nat} {v : Value} {q : List Ent} {rest : List Value} (h : QAt w base g v q rest) (b : Below w.heap.size w w') : QPost w w' base g v q rest :=
  ⟨v, ⟨(b.block g h.lt).trans h.blk, h.ge, own_then h.row b, h.len⟩, Kept2.of_below b _ _, .inl rfl⟩
theorem QPost.trans {w w1 w2 : World} {base g : Nat} {v : Value} {q1 q2 : List Ent} {rest r2 : List Value} (h : ∃ v1, (QAt w1 base g v1 q1 rest ∧ Kept2 w w1 g v.ownBlock ∧ NewRow w v v1) ∧ QPost w1 w2 base g v1 q2 r2) : QPost w w2 base g v q2 r2 := by
  obtain ⟨v1, ⟨h1, h2, h3⟩, v2, k1, k2, k3⟩ := h
  exact ⟨v2, k1, h2.trans k2 h3.row, h3.trans k3 h2.size⟩
/-- The row alone has turned. -/
theorem QPost.of_row {w w' : World} {base g b n c : Nat} {q q' : List Ent} {rest : List Value} (h : QAt w base g (.slice (some ⟨b, 0, none⟩) n c) q rest) (hr : QRow w' base (.slice (some ⟨b, 0, none⟩) n c) q') (hl : q'.length ≤ 4096) (k : w.grownBy w' (some b)) : QPost w w' base g (.slice (some ⟨b, 0, none⟩) n c) q' rest := by
  have hne : g ≠ b := fun e => h.ne (by simp [Value.ownBlock, e])
  exact ⟨_, ⟨(k.block g h.lt (by simp; exact hne)).trans h.blk, h.ge, hr, hl⟩, (Kept2.of_below (Below.refl _ _) _ _).grown k (.inl rfl), .inl rfl⟩
theorem qpush_call (w : World) (base g : Nat) (v : Value) (q : List Ent) (rest : List Value) (e : Ent) (h : QAt w base g v q rest) (hl : q.length < 4096) :
    Calls Try.prog 77 #[.pointer (some ⟨g, 0, none⟩), .iface 88 (.agg #[.int .i64 e.cy, .int .i64 e.lv, .bool e.on, .int .i64 e.nm])] w fun e' w' => e' = .returned (.tuple #[]) ∧ QPost w w' base g v (q ++ [e]) rest := by
  have hf := h.field
  have hfr := h.free 0
  obtain ⟨a0, a1, a2, a3⟩ := e
  simp only
  have ta := assertE
  obtain ⟨i0, hi, hzz⟩ := Option.map_eq_some_iff.1 infoE
  simp only [Prod.mk.injEq] at hzz
  obtain ⟨hz0, hz1, hz2⟩ := hzz
  have hrow : (w.alloc (.cells #[.int .i64 a0, .int .i64 a1, .bool a2, .int .i64 a3] 88 (0, 0))).drew.ownsRow base 88 4 v q.length (cells4 q) := own_then h.row (below_alloc (Below.refl w.heap.size w) (.cells #[.int .i64 a0, .int .i64 a1, .bool a2, .int .i64 a3] 88 (0, 0))).drew
  obtain ⟨v1, W1, r1, r2, r3, r4, r5⟩ := run_append_own_at (P := Try.prog) (w := (w.alloc (.cells #[.int .i64 a0, .int .i64 a1, .bool a2, .int .i64 a3] 88 (0, 0))).drew) base 82 82 88 i0 (.agg #[.int .i64 0, .int .i64 0, .bool false, .int .i64 0]) 4 32 Try.underlying82 hi hz0 hz1 hz2 rfl (by decide) v q.length (cells4 q) hrow
    ⟨w.heap.size, 0, none⟩ 1 1 [.int .i64 a0, .int .i64 a1, .bool a2, .int .i64 a3] rfl (World.news_of_block (cs := #[.int .i64 a0, .int .i64 a1, .bool a2, .int .i64 a3]) (t := 88) (fr := (0, 0)) (heap_alloc_new w _)) (by simp [Value.oneCell']) (by simp only [maxLen]; omega) (by omega) (by have := h.lt; have := h.ge; simp; omega)
  have hg1 : W1.heap[g]? = some (.cells (v :: rest).toArray 84 (0, 0)) := by
    have hlt := h.lt
    refine (r3.block g (by simp; omega) (fun e => h.ne e.symm)).trans ?_
    refine Eq.trans ?_ h.blk
    exact (below_alloc (Below.refl w.heap.size w) _).block g h.lt
  have hf1 : W1.cell? ⟨g, 0, none⟩ = some v := by have := cell_of_row W1 g 0 _ _ _ hg1; rw [this]; simp
  have hfr1 := frozen_of_row W1 g 0 _ _ hg1
  obtain ⟨b1, c1, rfl⟩ := own_some r2
  have hfa : ∀ o, (w.alloc o).cell? ⟨g, 0, none⟩ = some v := fun o => ((below_alloc (Below.refl w.heap.size w) o).cell (p := ⟨g, 0, none⟩) h.lt).trans h.field
  have hlen : (q ++ [(⟨a0, a1, a2, a3⟩ : Ent)]).length = q.length + 1 := by simp
  have hne : (Value.slice (some ⟨b1, 0, none⟩) (q.length + 1) c1).ownBlock ≠ some g := by
    rcases r5 with r5 | r5
    · rw [r5]; exact h.ne
    · rw [r5]
      have := h.lt
      intro e
      simp at e
      omega
  have fin : QPost w (W1.setCell ⟨g, 0, none⟩ (.slice (some ⟨b1, 0, none⟩) (q.length + 1) c1)) base g v (q ++ [⟨a0, a1, a2, a3⟩]) rest := by
    refine ⟨.slice (some ⟨b1, 0, none⟩) (q.length + 1) c1, ⟨blk_put hg1 0 (.slice (some ⟨b1, 0, none⟩) (q.length + 1) c1) (by simp), h.ge, ?_, by omega⟩, ((Kept2.of_below (below_alloc (Below.refl w.heap.size w) (.cells #[.int .i64 a0, .int .i64 a1, .bool a2, .int .i64 a3] 88 (0, 0))).drew _ _).grown r3 (.inl rfl)).set _ _, ?_⟩
    · unfold QRow
      rw [hlen, cells4_append]
      exact ownsRow_setCell_other r2 hne _
    · rcases r5 with r5 | r5
      · exact .inl r5
      · exact .inr ⟨_, r5, by simp⟩
  have FIN := Aside0.mk fin
  have R1 := Aside0.mk r1
  clear h r1 r2 r3 r4 r5 hg1 hrow hi hz0 hz1 hz2 fin hlen hne
  go_enter Try.func77, Try.ntmps77
  go_wp2
  go_region_law (refine step_append_run rfl (.tmp 7) (.tmp 10) 82 rfl _ _ _ _ (by simp [Act.eval, Act.put]) (by simp [Act.eval, Act.put]) R1.out ?_)
  all_goals go_wp2
  all_goals (go_end0; exact ⟨rfl, FIN.out⟩)
end Go.Proofs.Ytbgcbnlpjjhmhaa.LinesWalk
