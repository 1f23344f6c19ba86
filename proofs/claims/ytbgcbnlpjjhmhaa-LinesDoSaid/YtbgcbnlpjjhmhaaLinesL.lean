/- The document's lines (camshaftref22), walked: Add. -/
import Derived.Test.YtbgcbnlpjjhmhaaLinesK
namespace Go.Proofs.Ytbgcbnlpjjhmhaa.LinesWalk
open Go.RowKit Go.Proofs.Ytbgcbnlpjjhmhaa.Aid Go.Proofs.YtbgcbnlpjjhmhaaW.PrintWords Go.Proofs.YtbgcbnlpjjhmhaaW.PrintLast Go.Proofs.YtbgcbnlpjjhmhaaW.PrintMore Go.Proofs.Ytbgcbnlpjjhmhaa.HeapLaw
attribute [local go_sem] max2_int min2_int max_two min_two max_three min_three max_four min_four   -- for this text's walks alone
set_option linter.unusedVariables false
set_option linter.unusedSimpArgs false
theorem radd_bad (w : World) (g : Nat) (cy lv : Int) (on : Bool) (hb : lv < 1 ∨ 31 < lv) :
    Calls Try.prog 24 #[.pointer (some ⟨g, 0, none⟩), .agg #[.int .i64 cy, .int .i64 lv, .bool on]] w fun e w' => e = .returned (.int .i64 1) ∧ Below w.heap.size w w' := by
  by_cases h1 : lv < 1
  · clear hb
    go_enter Try.func24, Try.ntmps24
    go_wp2
    go_ret
    exact ⟨rfl, below_alloc (Below.refl _ _) _⟩
  · have h2 : 31 < lv := by omega
    clear hb
    go_enter Try.func24, Try.ntmps24
    go_wp2
    go_ret
    exact ⟨rfl, below_alloc (Below.refl _ _) _⟩
theorem radd_done (w : World) (base g : Nat) (v : Value) (s : St) (cy lv : Int) (on : Bool) (h : RAt w base g v s) (h1 : ¬ lv < 1) (h2 : ¬ 31 < lv) (h3 : cy < s.now) :
    Calls Try.prog 24 #[.pointer (some ⟨g, 0, none⟩), .agg #[.int .i64 cy, .int .i64 lv, .bool on]] w fun e w' => e = .returned (.int .i64 7) ∧ Below w.heap.size w w' := by
  have c2 : ∀ o, (w.alloc o).cell? ⟨g, 1, none⟩ = some (.int .i64 s.now) := fun o => ((below_alloc (Below.refl w.heap.size w) o).cell (p := ⟨g, 1, none⟩) h.lt).trans h.f1
  clear h
  generalize s.now = now at *
  go_enter Try.func24, Try.ntmps24
  go_wp2
  go_quiet (fail)
  go_wp2
  go_ret
  exact ⟨rfl, pw_below_drewN (below_alloc (Below.refl _ _) _) _⟩
theorem radd_long (w : World) (base g : Nat) (v : Value) (s : St) (cy lv : Int) (on : Bool) (h : RAt w base g v s) (h1 : ¬ lv < 1) (h2 : ¬ 31 < lv) (h3 : ¬ cy < s.now) (h4 : s.xs.length = 4096) :
    Calls Try.prog 24 #[.pointer (some ⟨g, 0, none⟩), .agg #[.int .i64 cy, .int .i64 lv, .bool on]] w fun e w' => e = .returned (.int .i64 3) ∧ Below w.heap.size w w' := by
  obtain ⟨A, c, rfl⟩ := h.own
  rw [h4] at h
  have c2 : ∀ o, (w.alloc o).cell? ⟨g, 1, none⟩ = some (.int .i64 s.now) := fun o => ((below_alloc (Below.refl w.heap.size w) o).cell (p := ⟨g, 1, none⟩) h.lt).trans h.f1
  have c0 : ∀ o, (w.alloc o).cell? ⟨g, 0, none⟩ = some (.slice A 4096 c) := fun o => ((below_alloc (Below.refl w.heap.size w) o).cell (p := ⟨g, 0, none⟩) h.lt).trans h.f0
  clear h h4
  generalize s.now = now at *
  go_enter Try.func24, Try.ntmps24
  go_wp2
  go_quiet (fail)
  go_wp2
  go_ret
  exact ⟨rfl, pw_below_drewN (below_alloc (Below.refl _ _) _) _⟩
set_option maxRecDepth 100000 in
set_option maxHeartbeats 2000000 in
theorem radd_ok (w : World) (base g : Nat) (v : Value) (s : St) (cy lv : Int) (on : Bool) (h : RAt w base g v s) (h1 : ¬ lv < 1) (h2 : ¬ 31 < lv) (h3 : ¬ cy < s.now) (h4 : s.xs.length < 4096) :
    Calls Try.prog 24 #[.pointer (some ⟨g, 0, none⟩), .agg #[.int .i64 cy, .int .i64 lv, .bool on]] w fun e w' => e = .returned (.int .i64 0) ∧ RPost w w' base g v (addS s cy lv on) := by
  have hadd : addS s cy lv on = ⟨s.xs ++ [⟨cy, lv, on, s.nums⟩], s.now, s.on, s.nums + 1⟩ := by
    unfold addS
    rw [if_neg (fun q => q.elim h1 h2), if_neg h3, if_neg (by omega)]
  rw [hadd]
  obtain ⟨A, c, rfl⟩ := h.own
  have c2 : ∀ o, (w.alloc o).cell? ⟨g, 1, none⟩ = some (.int .i64 s.now) := fun o => ((below_alloc (Below.refl w.heap.size w) o).cell (p := ⟨g, 1, none⟩) h.lt).trans h.f1
  have c0 : ∀ o, (w.alloc o).cell? ⟨g, 0, none⟩ = some (.slice A s.xs.length c) := fun o => ((below_alloc (Below.refl w.heap.size w) o).cell (p := ⟨g, 0, none⟩) h.lt).trans h.f0
  have hq4 : ¬ ((4096 : Int) ≤ s.xs.length) := by omega
  have hq5 : decide ((4096 : Int) ≤ s.xs.length) = false := decide_eq_false hq4
  have H := Aside0.mk h
  have HA := Aside0.mk hadd
  clear h hadd
  generalize hn : s.xs.length = n at *
  have HN := Aside0.mk hn
  clear hn
  go_enter Try.func24, Try.ntmps24
  generalize hnow : s.now = now at *
  go_wp2
  go_quiet (fail)
  go_wp2
  generalize hW : (w.alloc (.cells #[.int .i64 cy, .int .i64 lv, .bool on] 47)).drewN _ = W
  have hB : Below w.heap.size w W := hW ▸ pw_below_drewN (below_alloc (Below.refl w.heap.size w) _) _
  have hbx : W.heap[w.heap.size]? = some (.cells #[.int .i64 cy, .int .i64 lv, .bool on] 47 (0, 0)) := by rw [← hW]; exact blk_new w _
  have x0 : ∀ o, (W.alloc o).cell? ⟨w.heap.size, 0, none⟩ = some (.int .i64 cy) := fun o => ((below_alloc (Below.refl W.heap.size W) o).cell (p := ⟨w.heap.size, 0, none⟩) (Array.getElem?_eq_some_iff.1 hbx).1).trans (cell_of_row W _ 0 _ _ _ hbx)
  have x1 : ∀ o, (W.alloc o).cell? ⟨w.heap.size, 1, none⟩ = some (.int .i64 lv) := fun o => ((below_alloc (Below.refl W.heap.size W) o).cell (p := ⟨w.heap.size, 1, none⟩) (Array.getElem?_eq_some_iff.1 hbx).1).trans (cell_of_row W _ 1 _ _ _ hbx)
  have x2 : ∀ o, (W.alloc o).cell? ⟨w.heap.size, 2, none⟩ = some (.bool on) := fun o => ((below_alloc (Below.refl W.heap.size W) o).cell (p := ⟨w.heap.size, 2, none⟩) (Array.getElem?_eq_some_iff.1 hbx).1).trans (cell_of_row W _ 2 _ _ _ hbx)
  have y0 := cell_of_row W _ 0 _ _ _ hbx
  have y1 := cell_of_row W _ 1 _ _ _ hbx
  have y2 := cell_of_row W _ 2 _ _ _ hbx
  have R := H.out.then hB
  have hf := R.f0
  have hfa : ∀ o, (W.alloc o).cell? ⟨g, 0, none⟩ = some (.slice A n c) := fun o => ((below_alloc (Below.refl W.heap.size W) o).cell (p := ⟨g, 0, none⟩) R.lt).trans R.f0
  obtain ⟨i0, hi, hzz⟩ := Option.map_eq_some_iff.1 infoR
  simp only [Prod.mk.injEq] at hzz
  obtain ⟨hz0, hz1, hz2⟩ := hzz
  have hrow : (W.alloc (.cells #[.int .i64 cy, .int .i64 lv, .bool on] 47 (0, 0))).drew.ownsRow base 47 3 (.slice A n c) n (cells3 s.xs) := by
    have := R.row
    rw [HN.out] at this
    exact own_then this (below_alloc (Below.refl W.heap.size W) (.cells #[.int .i64 cy, .int .i64 lv, .bool on] 47 (0, 0))).drew
  obtain ⟨v1, W1, r1, r2, r3, r4, r5⟩ := run_append_own_at (P := Try.prog) (w := (W.alloc (.cells #[.int .i64 cy, .int .i64 lv, .bool on] 47 (0, 0))).drew) base 42 42 47 i0 (.agg #[.int .i64 0, .int .i64 0, .bool false]) 3 24 Try.underlying42 hi hz0 hz1 hz2 rfl (by decide) (.slice A n c) n (cells3 s.xs) hrow
    ⟨W.heap.size, 0, none⟩ 1 1 [.int .i64 cy, .int .i64 lv, .bool on] rfl (World.news_of_block (cs := #[.int .i64 cy, .int .i64 lv, .bool on]) (t := 47) (fr := (0, 0)) (heap_alloc_new W _)) (by simp [Value.oneCell']) (by simp only [maxLen]; omega) (by omega) (by have := R.lt; have := R.ge; simp; omega)
  have hg1 : W1.heap[g]? = some (.cells (Value.slice A n c :: .int .i64 s.now :: onL s.on).toArray 45 (0, 0)) := by
    have hlt := R.lt
    refine (r3.block g (by simp; omega) (fun e => R.ne e.symm)).trans ?_
    refine Eq.trans ?_ R.blk
    exact (below_alloc (Below.refl W.heap.size W) _).block g R.lt
  have hf1 : W1.cell? ⟨g, 0, none⟩ = some (.slice A n c) := by have := cell_of_row W1 g 0 _ _ _ hg1; rw [this]; simp
  have hfr1 := frozen_of_row W1 g 0 _ _ hg1
  obtain ⟨b1, c1, rfl⟩ := own_some r2
  have hlen : (s.xs ++ [(⟨cy, lv, on, s.nums⟩ : Ent)]).length = n + 1 := by rw [List.length_append, HN.out]; rfl
  have hne : (Value.slice (some ⟨b1, 0, none⟩) (n + 1) c1).ownBlock ≠ some g := by
    rcases r5 with r5 | r5
    · rw [r5]; exact R.ne
    · rw [r5]
      have := R.lt
      intro e
      simp at e
      omega
  have fin : RPost w (W1.setCell ⟨g, 0, none⟩ (.slice (some ⟨b1, 0, none⟩) (n + 1) c1)) base g (.slice A n c) ⟨s.xs ++ [⟨cy, lv, on, s.nums⟩], s.now, s.on, s.nums + 1⟩ := by
    refine ⟨.slice (some ⟨b1, 0, none⟩) (n + 1) c1, ⟨blk_put hg1 0 (.slice (some ⟨b1, 0, none⟩) (n + 1) c1) (by simp), R.ge, ?_, by rw [hlen]; omega⟩, (((Kept2.of_below hB g (Value.slice A n c).ownBlock).trans (Kept2.of_below (below_alloc (Below.refl W.heap.size W) (.cells #[.int .i64 cy, .int .i64 lv, .bool on] 47 (0, 0))).drew g (Value.slice A n c).ownBlock) (.inl rfl)).grown r3 (.inl rfl)).set _ _, ?_⟩
    · show World.ownsRow _ _ _ _ _ (s.xs ++ [(⟨cy, lv, on, s.nums⟩ : Ent)]).length (cells3 (s.xs ++ [⟨cy, lv, on, s.nums⟩]))
      rw [hlen, cells3_append]
      exact ownsRow_setCell_other r2 hne _
    · rcases r5 with r5 | r5
      · exact .inl r5
      · exact .inr ⟨_, r5, by have := hB.size; simp; omega⟩
  rw [hnow] at fin
  have FIN := Aside0.mk fin
  have R1 := Aside0.mk r1
  clear r1 r2 r3 r4 r5 hg1 hrow hi hz0 hz1 hz2 fin hlen hne c0 c2 hbx hW R hB hnow
  generalize w.heap.size = bx at *
  go_region_law (refine step_append_run rfl (.tmp 30) (.tmp 32) 42 rfl _ _ _ _ (by simp [Act.eval, Act.put]) (by simp [Act.eval, Act.put]) R1.out ?_)
  all_goals go_wp2
  all_goals (go_ret; exact ⟨rfl, FIN.out⟩)
theorem radd_call (w : World) (base g : Nat) (v : Value) (s : St) (cy lv : Int) (on : Bool) (h : RAt w base g v s) :
    Calls Try.prog 24 #[.pointer (some ⟨g, 0, none⟩), .agg #[.int .i64 cy, .int .i64 lv, .bool on]] w fun e w' => e = .returned (.int .i64 (addE s cy lv)) ∧ RPost w w' base g v (addS s cy lv on) := by
  by_cases h1 : lv < 1 ∨ 31 < lv
  · unfold addE addS
    rw [if_pos h1, if_pos h1]
    exact (radd_bad w g cy lv on h1).mono fun e w' ⟨he, hb⟩ => ⟨he, RPost.of_below h hb⟩
  · have h11 : ¬ lv < 1 := fun q => h1 (.inl q)
    have h12 : ¬ 31 < lv := fun q => h1 (.inr q)
    by_cases h2 : cy < s.now
    · unfold addE addS
      rw [if_neg h1, if_neg h1, if_pos h2, if_pos h2]
      exact (radd_done w base g v s cy lv on h h11 h12 h2).mono fun e w' ⟨he, hb⟩ => ⟨he, RPost.of_below h hb⟩
    · by_cases h3 : s.xs.length = 4096
      · unfold addE addS
        rw [if_neg h1, if_neg h1, if_neg h2, if_neg h2, if_pos h3, if_pos h3]
        exact (radd_long w base g v s cy lv on h h11 h12 h2 h3).mono fun e w' ⟨he, hb⟩ => ⟨he, RPost.of_below h hb⟩
      · have hl := h.len
        have := radd_ok w base g v s cy lv on h h11 h12 h2 (by omega)
        have he : addE s cy lv = 0 := by unfold addE; rw [if_neg h1, if_neg h2, if_neg h3]
        rw [he]
        exact this
end Go.Proofs.Ytbgcbnlpjjhmhaa.LinesWalk
