/- The lines' functions of layer 22, walked: New, Add, Waits. -/
import Derived.Test.YtbgcbnlpjjhmhaaLinesF
import Derived.StillTailTactics
namespace Go.Proofs.Ytbgcbnlpjjhmhaa.LinesWalk
open Go.RowKit Go.Proofs.Ytbgcbnlpjjhmhaa.Aid Go.Proofs.YtbgcbnlpjjhmhaaW.PrintWords Go.Proofs.YtbgcbnlpjjhmhaaW.PrintLast Go.Proofs.YtbgcbnlpjjhmhaaW.PrintMore Go.Proofs.Ytbgcbnlpjjhmhaa.HeapLaw
attribute [local go_sem] max2_int min2_int max_two min_two max_three min_three max_four min_four   -- for this text's walks alone
set_option linter.unusedVariables false
set_option linter.unusedSimpArgs false
def restV (s : St) : List Value := [.int .u32 (onN s.on 32 : Nat), .int .i64 s.now, .int .i64 s.nums]
/-- Lines in a state: a heap of what comes. -/
def LAt (W : World) (base g : Nat) (v : Value) (s : St) : Prop := ∃ q, QAt W base g v q (restV s) ∧ Heap q q.length ∧ q.Perm s.xs ∧ GoodS s ∧ 0 ≤ s.nums
def LPost (w w' : World) (base g : Nat) (v : Value) (s : St) : Prop := ∃ v', LAt w' base g v' s ∧ Kept2 w w' g v.ownBlock ∧ NewRow w v v'
theorem LAt.good {W : World} {base g : Nat} {v : Value} {s : St} (h : LAt W base g v s) : GoodS s := by
  obtain ⟨q, _, _, _, h, _⟩ := h; exact h
theorem LAt.then {W W' : World} {base g : Nat} {v : Value} {s : St} (h : LAt W base g v s) (k : Below W.heap.size W W') : LAt W' base g v s := by
  obtain ⟨q, h1, h2⟩ := h; exact ⟨q, h1.then k, h2⟩
theorem LAt.lt {W : World} {base g : Nat} {v : Value} {s : St} (h : LAt W base g v s) : g < W.heap.size := by
  obtain ⟨q, h1, h2⟩ := h; exact h1.lt
theorem LAt.ge {W : World} {base g : Nat} {v : Value} {s : St} (h : LAt W base g v s) : base ≤ g := by
  obtain ⟨q, h1, h2⟩ := h; exact h1.ge
theorem LAt.row {W : World} {base g : Nat} {v : Value} {s : St} (h : LAt W base g v s) : ∀ k, v.ownBlock = some k → base ≤ k ∧ k < W.heap.size := by
  obtain ⟨q, h1, h2⟩ := h; exact own_row h1.row
theorem LPost.of_below {w w' : World} {base g : Nat} {v : Value} {s : St} (h : LAt w base g v s) (b : Below w.heap.size w w') : LPost w w' base g v s := ⟨v, h.then b, Kept2.of_below b _ _, .inl rfl⟩
/-- The fields' cells. -/
theorem QAt.cells {W : World} {base g : Nat} {v : Value} {q : List Ent} {a b c : Value} (h : QAt W base g v q [a, b, c]) : W.cell? ⟨g, 0, none⟩ = some v ∧ W.cell? ⟨g, 1, none⟩ = some a ∧ W.cell? ⟨g, 2, none⟩ = some b ∧ W.cell? ⟨g, 3, none⟩ = some c :=
  ⟨h.field, cell_of_row W g 1 _ _ _ h.blk, cell_of_row W g 2 _ _ _ h.blk, cell_of_row W g 3 _ _ _ h.blk⟩
theorem QAt.own {W : World} {base g : Nat} {v : Value} {q : List Ent} {rest : List Value} (h : QAt W base g v q rest) : ∃ A c, v = .slice A q.length c := by
  rcases h.row.2 with ⟨rfl, h0⟩ | ⟨b, c, cur, rfl, _⟩
  · exact ⟨none, 0, by rw [h0]⟩
  · exact ⟨_, c, rfl⟩
theorem lnew_call (w : World) : Calls Try.prog 22 #[] w fun e w' => ∃ g, e = .returned (.pointer (some ⟨g, 0, none⟩)) ∧ LAt w' w.heap.size g (.slice none 0 0) St.new ∧ Below w.heap.size w w' := by
  go_enter Try.func22, Try.ntmps22
  go_wp2
  go_ret
  refine ⟨w.heap.size, rfl, ⟨[], ⟨blk_new _ _, Nat.le_refl _, World.ownsRow_nil _ _ _ _, Nat.zero_le _⟩, fun k _ h => absurd h (Nat.not_lt_zero _), List.Perm.refl _, GoodS.new, Int.le_refl _⟩, below_alloc (Below.refl _ _) _⟩
theorem waits_call (w : World) (base g : Nat) (v : Value) (s : St) (h : LAt w base g v s) : Calls Try.prog 27 #[.pointer (some ⟨g, 0, none⟩)] w fun e w' => e = .returned (.int .i64 s.xs.length) ∧ w = w' := by
  obtain ⟨q, h1, h2, h3, h4, h5⟩ := h
  have hf := h1.field
  obtain ⟨A, c, rfl⟩ := h1.own
  have HL := Aside0.mk h3.length_eq
  clear h1 h2 h3 h4 h5
  go_enter Try.func27, Try.ntmps27
  go_wp2
  go_ret
  exact ⟨by rw [← HL.out]; rfl, rfl⟩
theorem waits_nil (w : World) : Calls Try.prog 27 #[.pointer none] w fun e w' => e = .returned (.int .i64 0) ∧ w = w' := by
  go_enter Try.func27, Try.ntmps27
  go_wp2
  go_ret
  exact ⟨rfl, rfl⟩
theorem add_nil (w : World) (cy lv : Int) (on : Bool) : Calls Try.prog 23 #[.pointer none, .agg #[.int .i64 cy, .int .i64 lv, .bool on]] w fun e w' => e = .returned (.int .i64 2) ∧ Below w.heap.size w w' := by
  go_enter Try.func23, Try.ntmps23
  go_wp2
  go_ret
  exact ⟨rfl, below_alloc (Below.refl _ _) _⟩
theorem at_nil (w : World) (c : Int) : Calls Try.prog 25 #[.pointer none, .int .i64 c] w fun e w' => e = .returned (.int .u32 0) ∧ w = w' := by
  go_enter Try.func25, Try.ntmps25
  go_wp2
  go_ret
  exact ⟨rfl, rfl⟩
theorem infoV : (Try.prog.info? 47).map (·.size) = some 3 := by kernel_rfl
theorem add_bad (w : World) (base g : Nat) (v : Value) (s : St) (cy lv : Int) (on : Bool) (h : LAt w base g v s) (hb : lv < 1 ∨ 31 < lv) :
    Calls Try.prog 23 #[.pointer (some ⟨g, 0, none⟩), .agg #[.int .i64 cy, .int .i64 lv, .bool on]] w fun e w' => e = .returned (.int .i64 1) ∧ Below w.heap.size w w' := by
  clear h
  by_cases h1 : lv < 1
  · clear hb
    go_enter Try.func23, Try.ntmps23
    go_wp2
    go_ret
    exact ⟨rfl, below_alloc (Below.refl _ _) _⟩
  · have h2 : 31 < lv := by omega
    clear hb
    go_enter Try.func23, Try.ntmps23
    go_wp2
    go_ret
    exact ⟨rfl, below_alloc (Below.refl _ _) _⟩
theorem add_done (w : World) (base g : Nat) (v : Value) (s : St) (cy lv : Int) (on : Bool) (h : LAt w base g v s) (h1 : ¬ lv < 1) (h2 : ¬ 31 < lv) (h3 : cy < s.now) :
    Calls Try.prog 23 #[.pointer (some ⟨g, 0, none⟩), .agg #[.int .i64 cy, .int .i64 lv, .bool on]] w fun e w' => e = .returned (.int .i64 7) ∧ Below w.heap.size w w' := by
  obtain ⟨q, k1, k2, k3, k4, k5⟩ := h
  have c2 : ∀ o, (w.alloc o).cell? ⟨g, 2, none⟩ = some (.int .i64 s.now) := fun o => ((below_alloc (Below.refl w.heap.size w) o).cell (p := ⟨g, 2, none⟩) k1.lt).trans k1.cells.2.2.1
  clear k1 k2 k3 k4 k5
  generalize s.now = now at *
  go_enter Try.func23, Try.ntmps23
  go_wp2
  go_quiet (fail)
  go_wp2
  go_ret
  exact ⟨rfl, pw_below_drewN (below_alloc (Below.refl _ _) _) _⟩
theorem add_long (w : World) (base g : Nat) (v : Value) (s : St) (cy lv : Int) (on : Bool) (h : LAt w base g v s) (h1 : ¬ lv < 1) (h2 : ¬ 31 < lv) (h3 : ¬ cy < s.now) (h4 : s.xs.length = 4096) :
    Calls Try.prog 23 #[.pointer (some ⟨g, 0, none⟩), .agg #[.int .i64 cy, .int .i64 lv, .bool on]] w fun e w' => e = .returned (.int .i64 3) ∧ Below w.heap.size w w' := by
  obtain ⟨q, k1, k2, k3, k4, k5⟩ := h
  have hl := k3.length_eq
  rw [h4] at hl
  obtain ⟨A, c, rfl⟩ := k1.own
  have c2 : ∀ o, (w.alloc o).cell? ⟨g, 2, none⟩ = some (.int .i64 s.now) := fun o => ((below_alloc (Below.refl w.heap.size w) o).cell (p := ⟨g, 2, none⟩) k1.lt).trans k1.cells.2.2.1
  have c0 : ∀ o, (w.alloc o).cell? ⟨g, 0, none⟩ = some (.slice A 4096 c) := fun o => ((below_alloc (Below.refl w.heap.size w) o).cell (p := ⟨g, 0, none⟩) k1.lt).trans (by rw [← hl]; exact k1.cells.1)
  clear k1 k2 k3 k4 k5 h4 hl
  generalize s.now = now at *
  go_enter Try.func23, Try.ntmps23
  go_wp2
  go_quiet (fail)
  go_wp2
  go_ret
  exact ⟨rfl, pw_below_drewN (below_alloc (Below.refl _ _) _) _⟩
set_option maxRecDepth 100000 in
theorem add_ok (w : World) (base g : Nat) (v : Value) (s : St) (cy lv : Int) (on : Bool) (h : LAt w base g v s) (h1 : ¬ lv < 1) (h2 : ¬ 31 < lv) (h3 : ¬ cy < s.now) (h4 : s.xs.length < 4096) (h5 : s.nums < 1000000) :
    Calls Try.prog 23 #[.pointer (some ⟨g, 0, none⟩), .agg #[.int .i64 cy, .int .i64 lv, .bool on]] w fun e w' => e = .returned (.int .i64 0) ∧ LPost w w' base g v (addS s cy lv on) := by
  obtain ⟨q, k1, k2, k3, k4, k5⟩ := h
  have hl := k3.length_eq
  obtain ⟨A, c, rfl⟩ := k1.own
  have hB := below_alloc (Below.refl w.heap.size w) (.cells #[.int .i64 cy, .int .i64 lv, .bool on] 47)
  have c2 : ∀ o, (w.alloc o).cell? ⟨g, 2, none⟩ = some (.int .i64 s.now) := fun o => ((below_alloc (Below.refl w.heap.size w) o).cell (p := ⟨g, 2, none⟩) k1.lt).trans k1.cells.2.2.1
  have c0 : ∀ o, (w.alloc o).cell? ⟨g, 0, none⟩ = some (.slice A q.length c) := fun o => ((below_alloc (Below.refl w.heap.size w) o).cell (p := ⟨g, 0, none⟩) k1.lt).trans k1.cells.1
  have c3 : ∀ o, (w.alloc o).cell? ⟨g, 3, none⟩ = some (.int .i64 s.nums) := fun o => ((below_alloc (Below.refl w.heap.size w) o).cell (p := ⟨g, 3, none⟩) k1.lt).trans k1.cells.2.2.2
  have hq4 : ((q.length : Int) == 4096) = false := beq_eq_false_iff_ne.mpr (by omega)
  have PC : Aside0 (∀ W1, Below w.heap.size w W1 → Calls Try.prog 37 #[.iface 86 (.pointer (some ⟨g, 0, none⟩)), .iface 88 (.agg #[.int .i64 cy, .int .i64 lv, .bool on, .int .i64 s.nums])] W1 fun e' w' => e' = .returned (.tuple #[]) ∧ ∃ v1, QAt w' base g v1 (pushL q ⟨cy, lv, on, s.nums⟩) (restV s) ∧ Kept2 w w' g (Value.slice A q.length c).ownBlock ∧ NewRow w (.slice A q.length c) v1) :=
    ⟨fun W1 hW => (hpush_call W1 base g (.slice A q.length c) q (restV s) ⟨cy, lv, on, s.nums⟩ (k1.then hW) (by omega)).mono fun e' w' ⟨he, v1, p1, p2, p3⟩ =>
      ⟨he, v1, p1, (Kept2.of_below hW g (Value.slice A q.length c).ownBlock).trans p2 (.inl rfl), NewRow.trans (.inl rfl) p3 hW.size⟩⟩
  have K1 := Aside0.mk k1.cells
  have LT := Aside0.mk k1.lt
  have hgood := k4.add cy lv on
  have hadd : addS s cy lv on = ⟨s.xs ++ [⟨cy, lv, on, s.nums⟩], s.now, s.on, s.nums + 1⟩ := by
    unfold addS
    rw [if_neg (fun q => q.elim h1 h2), if_neg h3, if_neg (by omega)]
  rw [hadd] at hgood ⊢
  obtain ⟨hp1, hp2⟩ := pushL_spec q ⟨cy, lv, on, s.nums⟩ k2
  have HP := Aside0.mk (And.intro hp1 (And.intro (hp2.trans (List.Perm.append_right _ k3)) (And.intro hgood k5)))
  have hn1 : 0 ≤ s.nums := k5
  clear hl h4 k1 k2 k3 k4 k5 hB hgood hp1 hp2 hadd
  generalize hpq : pushL q ⟨cy, lv, on, s.nums⟩ = pq at *
  clear hpq
  unfold restV at PC
  generalize hnow : s.now = now at *
  generalize hnums : s.nums = nums at *
  have HE := Aside0.mk (And.intro hnow hnums)
  clear hnow hnums
  go_enter Try.func23, Try.ntmps23
  go_wp2
  go_quiet (fail)
  go_wp2
  generalize hW : (w.alloc (.cells #[.int .i64 cy, .int .i64 lv, .bool on] 47)).drewN _ = W1
  have hB1 : Below w.heap.size w W1 := hW ▸ pw_below_drewN (below_alloc (Below.refl w.heap.size w) _) _
  have hbx : W1.heap[w.heap.size]? = some (.cells #[.int .i64 cy, .int .i64 lv, .bool on] 47 (0, 0)) := by rw [← hW]; exact blk_new w _
  have BX := Aside0.mk hbx
  have x0 := cell_of_row W1 _ 0 _ _ _ hbx
  have x1 := cell_of_row W1 _ 1 _ _ _ hbx
  have x2 := cell_of_row W1 _ 2 _ _ _ hbx
  have d3 := (hB1.cell (p := ⟨g, 3, none⟩) LT.out).trans K1.out.2.2.2
  have B1 := Aside0.mk hB1
  have B2 := Aside0.mk hB1.drew
  clear hbx hB1 hW c0 c2 c3
  generalize w.heap.size = bx at *
  go_still_tail 11, (by kernel_rfl)
  show wpList _ _ _ _ _ W1.drew
  go_wp2_with (first
    | (go_at_call 37; (with_reducible refine (PC.out _ B2.out).mono ?_); rintro e w2 ⟨rfl, v1, hq1, hk1, hr1⟩; have Q1 := Aside0.mk hq1; have R1 := Aside0.mk (And.intro hk1 hr1); obtain ⟨z0, z1, z2, z3⟩ := hq1.cells; have f3 := hq1.free 3; clear hq1 hk1 hr1))
  go_ret
  have hb1 : (w2.setCell ⟨g, 3, none⟩ (.int .i64 (nums + 1))).heap[g]? = some (.cells (v1 :: [.int .u32 (onN s.on 32 : Nat), .int .i64 now, .int .i64 (nums + 1)]).toArray 84 (0, 0)) := blk_put Q1.out.blk 3 (.int .i64 (nums + 1)) rfl
  refine ⟨rfl, v1, ⟨pq, ⟨hb1, Q1.out.ge, ownsRow_setCell_other Q1.out.row Q1.out.ne _, Q1.out.len⟩, HP.out.1, HP.out.2.1, HP.out.2.2.1, by show 0 ≤ nums + 1; omega⟩, R1.out.1.set _ _, R1.out.2⟩
theorem ladd_call (w : World) (base g : Nat) (v : Value) (s : St) (cy lv : Int) (on : Bool) (h : LAt w base g v s) (hn : s.nums < 1000000) :
    Calls Try.prog 23 #[.pointer (some ⟨g, 0, none⟩), .agg #[.int .i64 cy, .int .i64 lv, .bool on]] w fun e w' => e = .returned (.int .i64 (addE s cy lv)) ∧ LPost w w' base g v (addS s cy lv on) := by
  by_cases h1 : lv < 1 ∨ 31 < lv
  · unfold addE addS
    rw [if_pos h1, if_pos h1]
    exact (add_bad w base g v s cy lv on h h1).mono fun e w' ⟨he, hb⟩ => ⟨he, LPost.of_below h hb⟩
  · have h11 : ¬ lv < 1 := fun q => h1 (.inl q)
    have h12 : ¬ 31 < lv := fun q => h1 (.inr q)
    by_cases h2 : cy < s.now
    · unfold addE addS
      rw [if_neg h1, if_neg h1, if_pos h2, if_pos h2]
      exact (add_done w base g v s cy lv on h h11 h12 h2).mono fun e w' ⟨he, hb⟩ => ⟨he, LPost.of_below h hb⟩
    · by_cases h3 : s.xs.length = 4096
      · unfold addE addS
        rw [if_neg h1, if_neg h1, if_neg h2, if_neg h2, if_pos h3, if_pos h3]
        exact (add_long w base g v s cy lv on h h11 h12 h2 h3).mono fun e w' ⟨he, hb⟩ => ⟨he, LPost.of_below h hb⟩
      · have hl := h.good.len
        have := add_ok w base g v s cy lv on h h11 h12 h2 (by omega) hn
        have he : addE s cy lv = 0 := by unfold addE; rw [if_neg h1, if_neg h2, if_neg h3]
        rw [he]
        exact this
end Go.Proofs.Ytbgcbnlpjjhmhaa.LinesWalk
