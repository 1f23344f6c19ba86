/- Each stack's end is what it was made last, whoever runs; Put and back changes nothing: the walk of RegsStacks. -/
import Derived.Test.YtbgcbnlpjjhmhaaRegsJ
namespace Go.Proofs.Ytbgcbnlpjjhmhaa.RegsWalk
open Go.RowKit Go.Proofs.Ytbgcbnlpjjhmhaa.Aid Go.Proofs.YtbgcbnlpjjhmhaaW.PrintWords Go.Proofs.YtbgcbnlpjjhmhaaW.PrintLast Go.Proofs.YtbgcbnlpjjhmhaaW.PrintMore
set_option linter.unusedVariables false
set_option linter.unusedSimpArgs false
theorem st_then' {W W' : World} {m : Nat} {r : Nat → Int} {s p k u t0 t1 t2 t3 t4 sc hh : Int} (h : StAt W m r s p k u t0 t1 t2 t3 t4 sc hh) (b : Below W.heap.size W W') : StAt W' m r s p k u t0 t1 t2 t3 t4 sc hh := (b.block m (Array.getElem?_eq_some_iff.1 h).1).trans h
/-- The stack pointer of whoever runs. -/
def spOf (p k u : Int) : Int := if usr p = true then u else k
/-- Both stacks' ends are known. -/
def SK (w0 W : World) (g : Nat) (R : Nat → Int) (p y k u : Int) : Prop := ∃ kk uu, GP w0 W g (updI R 14 y) p kk uu [] ∧ y = spOf p k u ∧ (usr p = true → kk = k) ∧ (usr p = false → uu = u)
theorem SK.below {w0 W : World} {g : Nat} {R : Nat → Int} {p y k u : Int} (h : SK w0 W g R p y k u) : Below w0.heap.size w0 W := by
  obtain ⟨_, _, h, _⟩ := h; exact h.below
def SKK (w0 W W' : World) (g : Nat) (R : Nat → Int) (p y k u : Int) : Prop := SK w0 W' g R p y k u ∧ KeepSt W W'
theorem upd_14 (R : Nat → Int) (x : Int) : updI R 14 x 14 = x := rfl
theorem upd_r14 (R : Nat → Int) : updI R 14 (R 14) = R := by
  funext i; unfold updI; split
  · rename_i h; rw [h]
  · rfl
theorem sk_a (w0 W : World) (g : Nat) (R : Nat → Int) (p kk uu k : Int) (h : GP w0 W g R p kk uu []) :
    Calls Try.prog 28 #[.pointer (some ⟨g, 0, none⟩), .bool false, .int .u32 k] W fun e w' => e = .returned (.tuple #[]) ∧
      ∃ x kk', GP w0 w' g (updI R 14 x) p kk' uu [] ∧ (usr p = true → kk' = k) ∧ (usr p = false → x = k) := by
  refine (gsetstack w0 W g R p kk uu [] false k h).mono ?_
  rintro e w' ⟨rfl, h⟩
  refine ⟨rfl, ?_⟩
  cases hp : usr p
  · rw [hp] at h
    simp only [if_true] at h
    exact ⟨k, _, h.1, (fun e => by cases e), fun _ => rfl⟩
  · rw [hp] at h
    simp only [Bool.false_eq_true, if_false] at h
    exact ⟨_, _, h.1, fun _ => rfl, (fun e => by cases e)⟩
theorem sk_b (w0 W : World) (g : Nat) (R : Nat → Int) (p kk uu k u x : Int) (h : GP w0 W g (updI R 14 x) p kk uu []) (h1 : usr p = true → kk = k) (h2 : usr p = false → x = k) :
    Calls Try.prog 28 #[.pointer (some ⟨g, 0, none⟩), .bool true, .int .u32 u] W fun e w' => e = .returned (.tuple #[]) ∧ SK w0 w' g R p (spOf p k u) k u := by
  refine (gsetstack w0 W g _ p kk uu [] true u h).mono ?_
  rintro e w' ⟨rfl, h⟩
  refine ⟨rfl, ?_⟩
  unfold SK spOf
  cases hp : usr p
  · rw [hp] at h
    simp only [Bool.true_eq_false, if_false, if_true, upd_14, upd_up] at h
    refine ⟨kk, u, ?_, rfl, (fun e => by cases e), fun _ => rfl⟩
    simp only [Bool.false_eq_true, if_false]
    rw [← h2 hp]; exact h.1
  · rw [hp] at h
    simp only [if_true, upd_14, upd_up] at h
    exact ⟨_, _, h.1, rfl, fun _ => h1 hp, (fun e => by cases e)⟩
theorem sk_put (w0 W : World) (g : Nat) (R : Nat → Int) (p y k u x : Int) (h : SK w0 W g R p y k u) :
    Calls Try.prog 29 #[.pointer (some ⟨g, 0, none⟩), .int .u32 x] W fun e w' => e = .returned (.tuple #[]) ∧ SKK w0 W w' g R x (spOf x k u) k u := by
  obtain ⟨kk, uu, h, rfl, h1, h2⟩ := h
  refine (gput w0 W g _ p kk uu [] x h).mono ?_
  rintro e w' ⟨rfl, h, hk⟩
  refine ⟨rfl, ?_, hk⟩
  unfold SK spOf at *
  cases hp : usr p <;> cases hx : usr x <;> rw [hp, hx] at h <;> simp only [hp, Bool.false_eq_true, Bool.true_eq_false, if_false, if_true, upd_14, upd_up] at h ⊢
  · exact ⟨_, _, h, trivial, (fun e => by cases e), fun _ => h2 hp⟩
  · rw [h2 hp] at h; exact ⟨_, _, h, trivial, fun _ => rfl, (fun e => by cases e)⟩
  · rw [h1 hp] at h; exact ⟨_, _, h, trivial, (fun e => by cases e), fun _ => rfl⟩
  · exact ⟨_, _, h, trivial, fun _ => h1 hp, (fun e => by cases e)⟩
theorem sk_f (w0 W : World) (g : Nat) (R : Nat → Int) (p y k u : Int) (h : SK w0 W g R p y k u) :
    Calls Try.prog 30 #[.pointer (some ⟨g, 0, none⟩), .bool false] W fun e w' => e = .returned (.int .u32 k) ∧ SKK w0 W w' g R p y k u := by
  obtain ⟨kk, uu, h, rfl, h1, h2⟩ := h
  refine (gstack w0 W g _ p kk uu [] false h).mono ?_
  rintro e w' ⟨rfl, h, hk⟩
  refine ⟨?_, ⟨kk, uu, h, rfl, h1, h2⟩, hk⟩
  unfold stackV spOf
  cases hp : usr p
  · simp [upd_14]
  · simp [upd_14, h1 hp]
theorem sk_t (w0 W : World) (g : Nat) (R : Nat → Int) (p y k u : Int) (h : SK w0 W g R p y k u) :
    Calls Try.prog 30 #[.pointer (some ⟨g, 0, none⟩), .bool true] W fun e w' => e = .returned (.int .u32 u) ∧ SKK w0 W w' g R p y k u := by
  obtain ⟨kk, uu, h, rfl, h1, h2⟩ := h
  refine (gstack w0 W g _ p kk uu [] true h).mono ?_
  rintro e w' ⟨rfl, h, hk⟩
  refine ⟨?_, ⟨kk, uu, h, rfl, h1, h2⟩, hk⟩
  unfold stackV spOf
  cases hp : usr p
  · simp [upd_14, h2 hp]
  · simp [upd_14]
theorem sk_save (w0 W : World) (g : Nat) (R r' : Nat → Int) (p y k u s' p' k' u' t0 t1 t2 t3 t4 sc hh : Int) (h : SK w0 W g R p y k u) :
    Calls Try.prog 18 #[.pointer (some ⟨g, 0, none⟩), .agg (stCells r' s' p' k' u' t0 t1 t2 t3 t4 sc hh)] W fun e w' => (∃ kk uu, e = .returned (.agg (stCells (updI R 14 y) y p kk uu t0 t1 t2 t3 t4 sc hh))) ∧ SKK w0 W w' g R p y k u := by
  obtain ⟨kk, uu, h, rfl, h1, h2⟩ := h
  refine (gsave w0 W g _ r' p kk uu s' p' k' u' t0 t1 t2 t3 t4 sc hh [] h).mono ?_
  rintro e w' ⟨rfl, h, hk⟩
  exact ⟨⟨kk, uu, rfl⟩, ⟨kk, uu, h, rfl, h1, h2⟩, hk⟩
/-- The sixteen registers of a state's row. -/
def regsV (r : Nat → Int) (s : Int) : Value := (.agg #[.int .u32 (r 0), .int .u32 (r 1), .int .u32 (r 2), .int .u32 (r 3), .int .u32 (r 4), .int .u32 (r 5), .int .u32 (r 6), .int .u32 (r 7), .int .u32 (r 8), .int .u32 (r 9), .int .u32 (r 10), .int .u32 (r 11), .int .u32 (r 12), .int .u32 (r 13), .int .u32 s, .int .u32 (r 15)])
def loadArr (v : Value) : Sem Value := Instr.loadAt 23 v
theorem loadArr_eq (v : Value) : Instr.loadAt 23 v = loadArr v := rfl
theorem infoA : (Try.prog.info? 23).map (·.size) = some 16 := by kernel_rfl
theorem load_arr {W : World} {m : Nat} {r : Nat → Int} {s p k u t0 t1 t2 t3 t4 sc hh : Int} (h : StAt W m r s p k u t0 t1 t2 t3 t4 sc hh) : (loadArr (.pointer (some ⟨m, 0, none⟩))).run Try.prog W = .ok (regsV r s) W := by
  have hl : (loadCells ⟨m, 0, none⟩ 16).run Try.prog W = .ok ((stCells r s p k u t0 t1 t2 t3 t4 sc hh).toList.take 16).toArray W :=
    run_loadCells_list (P := Try.prog) W ⟨m, 0, none⟩ ((stCells r s p k u t0 t1 t2 t3 t4 sc hh).toList.take 16) (fun j v hv => by
      have hadd : (⟨m, 0, none⟩ : Addr).add j = ⟨m, j, none⟩ := by unfold Addr.add; split <;> simp_all
      have hj : j < 16 := by have := (List.getElem?_eq_some_iff.1 hv).1; rw [List.length_take] at this; omega
      rw [hadd, cell_of_row W m j _ _ _ h]
      rw [List.getElem?_take_of_lt hj] at hv
      simpa using hv)
  cases hq : Try.prog.info? 23 with
  | none => have := infoA; simp [hq] at this
  | some i =>
    have hs : i.size = 16 := by have := infoA; simpa [hq] using this
    have hagg : (isAgg 23).run Try.prog W = .ok true W := by
      unfold isAgg
      rw [Sem.run_bind, run_underlying Try.underlying23 W]
      simp
    have e : (loadVar 23 ⟨m, 0, none⟩).run Try.prog W = .ok (.agg ((stCells r s p k u t0 t1 t2 t3 t4 sc hh).toList.take 16).toArray) W := by
      simp [loadVar, Sem.run_bind, hagg, sizeOf, typeInfo, hq, hs, hl]
    simp only [loadArr, Instr.loadAt, Instr.sureAddr, Sem.run_bind, Sem.run_pure, Result.andThen_ok, e]
    rfl
theorem eqRegs (w : World) (r : Nat → Int) (s : Int) : (binOp .eql 23 (regsV r s) (regsV r s)).run Try.prog w = .ok (.bool true) w := by
  unfold regsV
  rw [run_eql_struct, eqArr w 9998]
  rfl
theorem eqRegsG (w : World) (x y : Operand) (r : Nat → Int) (s : Int) : (eqGuard .eql 23 x y (regsV r s) (regsV r s)).run Try.prog w = .ok () w := by
  unfold regsV
  exact run_eqGuard_agg w _ _ x y _ _ (by kernel_rfl)
theorem sk_box {w1 W : World} {g : Nat} {R : Nat → Int} {p y k u : Int} (h : SK w1 W g R p y k u) (cs0 cs : Array Value) (ty : TypeId) :
    SK w1 ((W.alloc (.cells cs0 ty)).setRow W.heap.size cs) g R p y k u ∧ ((W.alloc (.cells cs0 ty)).setRow W.heap.size cs).heap[W.heap.size]? = some (.cells cs ty (0, 0)) ∧ KeepSt W ((W.alloc (.cells cs0 ty)).setRow W.heap.size cs) := by
  have b0 := below_alloc (Below.refl W.heap.size W) (.cells cs0 ty)
  have b1 : Below W.heap.size W ((W.alloc (.cells cs0 ty)).setRow W.heap.size cs) := b0.trans ⟨rfl, rfl, rfl, by simp [World.setRow], fun k hk => setRow_other _ W.heap.size k _ (by omega)⟩
  obtain ⟨kk, uu, h, h1⟩ := h
  exact ⟨⟨kk, uu, h.then b1, h1⟩, setRow_heap _ W.heap.size _ _ ty _ (blk_new _ _), KeepSt.of_below b1⟩
attribute [local go_sem ↓] loadArr_eq
set_option maxRecDepth 100000 in
set_option maxHeartbeats 4000000 in
theorem stacks_ok (R : Nat → Int) (p kk uu t0 t1 t2 t3 t4 sc hh k u a b : Int) (w : World) :
    Calls Try.prog 9 #[.agg (stCells R (R 14) p kk uu t0 t1 t2 t3 t4 sc hh), .int .u32 k, .int .u32 u, .int .u32 a, .int .u32 b] w fun e w' => e = .returned (.bool true) ∧ Below w.heap.size w w' := by
  have LD := Aside0.mk (fun w1 W g h => gload w1 W g (fun _ => 0) R 0 0 0 p kk uu t0 t1 t2 t3 t4 sc hh [] h)
  go_enter Try.func9, Try.ntmps9
  go_wp2_with (first
    | (go_at_call 13; (with_reducible refine (ralive_call _).mono ?_); rintro e w1 ⟨rfl, hb1⟩; have B1 := Aside0.mk (below_step (below_alloc (Below.refl w.heap.size w) _) hb1); have S1 := Aside0.mk (st_then' (show StAt _ w.heap.size R (R 14) p kk uu t0 t1 t2 t3 t4 sc hh from blk_new _ _) hb1); clear hb1)
    | (go_at_call 14; (with_reducible refine (gnew _).mono ?_); rintro e w2 ⟨g, rfl, h⟩; have H2 := Aside0.mk h; have S2 := Aside0.mk (st_then' S1.out h.below); clear h)
    | (refine wpList_load_row rfl 27 (.tmp 5) rfl w.heap.size rfl _ _ _ _ S2.out Try.underlying27 rfl infoS ?_)
    | (go_at_call 15; refine (LD.out w1 _ g H2.out).mono ?_; rintro e w3 ⟨rfl, h⟩; have H3 := Aside0.mk h.1; clear h)
    | (go_at_call 28; (with_reducible refine (sk_a _ _ _ _ _ _ _ k H3.out).mono ?_); rintro e w4 ⟨rfl, x4, k4, h4, i4, j4⟩; have H4 := Aside0.mk (And.intro h4 (And.intro i4 j4)); clear h4 i4 j4)
    | (go_at_call 28; (with_reducible refine (sk_b _ _ _ _ _ _ _ k u _ H4.out.1 H4.out.2.1 H4.out.2.2).mono ?_); rintro e w5 ⟨rfl, h⟩; have H5 := Aside0.mk h; have S5 := Aside0.mk (st_then' S1.out h.below); clear h)
    | (refine wpList_load_row rfl 27 (.tmp 5) rfl w.heap.size rfl _ _ _ _ S5.out Try.underlying27 rfl infoS ?_)
    | (go_at_call 18; refine (sk_save w1 _ g R R p _ k u (R 14) p kk uu t0 t1 t2 t3 t4 sc hh H5.out).mono ?_; rintro e w6 ⟨⟨k6, u6, rfl⟩, h⟩; have H6 := Aside0.mk h.1; clear h)
    | (refine wpList_store_row rfl 27 (.tmp 12) (.tmp 28) rfl w6.heap.size (stCells (updI R 14 (spOf p k u)) (spOf p k u) p k6 u6 t0 t1 t2 t3 t4 sc hh) rfl rfl _ _ (blk_new _ _) infoS rfl (by kernel_rfl) ?_; have X7 := sk_box H6.out #[.int .u32 0, .int .u32 0, .int .u32 0, .int .u32 0, .int .u32 0, .int .u32 0, .int .u32 0, .int .u32 0, .int .u32 0, .int .u32 0, .int .u32 0, .int .u32 0, .int .u32 0, .int .u32 0, .int .u32 0, .int .u32 0, .int .u32 0, .int .u32 0, .int .u32 0, .int .u32 0, .int .u32 0, .int .u32 0, .int .u32 0, .int .u32 0, .int .u32 0, .int .i64 0] (stCells (updI R 14 (spOf p k u)) (spOf p k u) p k6 u6 t0 t1 t2 t3 t4 sc hh) 27; generalize (w6.alloc (.cells #[.int .u32 0, .int .u32 0, .int .u32 0, .int .u32 0, .int .u32 0, .int .u32 0, .int .u32 0, .int .u32 0, .int .u32 0, .int .u32 0, .int .u32 0, .int .u32 0, .int .u32 0, .int .u32 0, .int .u32 0, .int .u32 0, .int .u32 0, .int .u32 0, .int .u32 0, .int .u32 0, .int .u32 0, .int .u32 0, .int .u32 0, .int .u32 0, .int .u32 0, .int .i64 0] 27)).setRow w6.heap.size (stCells (updI R 14 (spOf p k u)) (spOf p k u) p k6 u6 t0 t1 t2 t3 t4 sc hh) = w7 at *; have H7 := Aside0.mk X7.1; have D7 := Aside0.mk (show StAt w7 w6.heap.size (updI R 14 (spOf p k u)) (spOf p k u) p k6 u6 t0 t1 t2 t3 t4 sc hh from X7.2.1); clear X7)
    | (go_at_call 29; (with_reducible refine (sk_put _ _ _ _ _ _ _ _ a H7.out).mono ?_); rintro e w8 ⟨rfl, h⟩; have H8 := Aside0.mk h.1; have D8 := Aside0.mk (show StAt w8 w6.heap.size (updI R 14 (spOf p k u)) (spOf p k u) p k6 u6 t0 t1 t2 t3 t4 sc hh from h.2 _ _ _ D7.out); clear h)
    | (go_at_call 30; (with_reducible refine (sk_f _ _ _ _ _ _ _ _ H8.out).mono ?_); rintro e w9 ⟨rfl, h⟩; have H9 := Aside0.mk h.1; have D9 := Aside0.mk (show StAt w9 w6.heap.size (updI R 14 (spOf p k u)) (spOf p k u) p k6 u6 t0 t1 t2 t3 t4 sc hh from h.2 _ _ _ D8.out); clear h)
    | (go_at_call 30; (with_reducible refine (sk_t _ _ _ _ _ _ _ _ H9.out).mono ?_); rintro e w10 ⟨rfl, h⟩; have H10 := Aside0.mk h.1; have D10 := Aside0.mk (show StAt w10 w6.heap.size (updI R 14 (spOf p k u)) (spOf p k u) p k6 u6 t0 t1 t2 t3 t4 sc hh from h.2 _ _ _ D9.out); clear h)
    | (go_at_call 29; (with_reducible refine (sk_put _ _ _ _ _ _ _ _ b H10.out).mono ?_); rintro e w11 ⟨rfl, h⟩; have H11 := Aside0.mk h.1; have D11 := Aside0.mk (show StAt w11 w6.heap.size (updI R 14 (spOf p k u)) (spOf p k u) p k6 u6 t0 t1 t2 t3 t4 sc hh from h.2 _ _ _ D10.out); clear h)
    | (go_at_call 30; (with_reducible refine (sk_f _ _ _ _ _ _ _ _ H11.out).mono ?_); rintro e w12 ⟨rfl, h⟩; have H12 := Aside0.mk h.1; have D12 := Aside0.mk (show StAt w12 w6.heap.size (updI R 14 (spOf p k u)) (spOf p k u) p k6 u6 t0 t1 t2 t3 t4 sc hh from h.2 _ _ _ D11.out); clear h)
    | (go_at_call 30; (with_reducible refine (sk_t _ _ _ _ _ _ _ _ H12.out).mono ?_); rintro e w13 ⟨rfl, h⟩; have H13 := Aside0.mk h.1; have c16 : w13.cell? ⟨w.heap.size, 16, none⟩ = some (.int .u32 p) := cell_of_row _ _ 16 _ _ _ (st_then' S1.out h.1.below); have D13 := Aside0.mk (show StAt w13 w6.heap.size (updI R 14 (spOf p k u)) (spOf p k u) p k6 u6 t0 t1 t2 t3 t4 sc hh from h.2 _ _ _ D12.out); clear h)
    | (go_at_call 29; (with_reducible refine (sk_put _ _ _ _ _ _ _ _ p H13.out).mono ?_); rintro e w14 ⟨rfl, h⟩; have H14 := Aside0.mk h.1; have S14 := Aside0.mk (st_then' S1.out h.1.below); have D14 := Aside0.mk (show StAt w14 w6.heap.size (updI R 14 (spOf p k u)) (spOf p k u) p k6 u6 t0 t1 t2 t3 t4 sc hh from h.2 _ _ _ D13.out); clear h)
    | (refine wpList_load_row rfl 27 (.tmp 5) rfl w.heap.size rfl _ _ _ _ S14.out Try.underlying27 rfl infoS ?_)
    | (go_at_call 18; refine (sk_save w1 _ g R R p _ k u (R 14) p kk uu t0 t1 t2 t3 t4 sc hh H14.out).mono ?_; rintro e w15 ⟨⟨k15, u15, rfl⟩, h⟩; have H15 := Aside0.mk h.1; have D15 := Aside0.mk (show StAt w15 w6.heap.size (updI R 14 (spOf p k u)) (spOf p k u) p k6 u6 t0 t1 t2 t3 t4 sc hh from h.2 _ _ _ D14.out); clear h)
    | (refine wpList_store_row rfl 27 (.tmp 13) (.tmp 61) rfl w15.heap.size (stCells (updI R 14 (spOf p k u)) (spOf p k u) p k15 u15 t0 t1 t2 t3 t4 sc hh) rfl rfl _ _ (blk_new _ _) infoS rfl (by kernel_rfl) ?_; have X := sk_box H15.out #[.int .u32 0, .int .u32 0, .int .u32 0, .int .u32 0, .int .u32 0, .int .u32 0, .int .u32 0, .int .u32 0, .int .u32 0, .int .u32 0, .int .u32 0, .int .u32 0, .int .u32 0, .int .u32 0, .int .u32 0, .int .u32 0, .int .u32 0, .int .u32 0, .int .u32 0, .int .u32 0, .int .u32 0, .int .u32 0, .int .u32 0, .int .u32 0, .int .u32 0, .int .i64 0] (stCells (updI R 14 (spOf p k u)) (spOf p k u) p k15 u15 t0 t1 t2 t3 t4 sc hh) 27; generalize (w15.alloc (.cells #[.int .u32 0, .int .u32 0, .int .u32 0, .int .u32 0, .int .u32 0, .int .u32 0, .int .u32 0, .int .u32 0, .int .u32 0, .int .u32 0, .int .u32 0, .int .u32 0, .int .u32 0, .int .u32 0, .int .u32 0, .int .u32 0, .int .u32 0, .int .u32 0, .int .u32 0, .int .u32 0, .int .u32 0, .int .u32 0, .int .u32 0, .int .u32 0, .int .u32 0, .int .i64 0] 27)).setRow w15.heap.size (stCells (updI R 14 (spOf p k u)) (spOf p k u) p k15 u15 t0 t1 t2 t3 t4 sc hh) = w16 at *; have H16 := Aside0.mk X.1; have D16 := Aside0.mk (show StAt w16 w6.heap.size (updI R 14 (spOf p k u)) (spOf p k u) p k6 u6 t0 t1 t2 t3 t4 sc hh from X.2.2 _ _ _ D15.out); have E16 := Aside0.mk (show StAt w16 w15.heap.size (updI R 14 (spOf p k u)) (spOf p k u) p k15 u15 t0 t1 t2 t3 t4 sc hh from X.2.1); have A16 := load_arr E16.out; have B16 := load_arr D16.out; have F16 : w16.cell? ⟨w15.heap.size, 16, none⟩ = some (.int .u32 p) := cell_of_row _ _ 16 _ _ _ E16.out; have G16 : w16.cell? ⟨w.heap.size, 16, none⟩ = some (.int .u32 p) := cell_of_row _ _ 16 _ _ _ (st_then' S1.out H16.out.below); have EQ := fun W => eqRegs W (updI R 14 (spOf p k u)) (spOf p k u); have EG := fun W x y => eqRegsG W x y (updI R 14 (spOf p k u)) (spOf p k u); clear X))
  go_ret
  exact ⟨rfl, below_step B1.out H16.out.below⟩
theorem RegsStacks_walk (r0 r1 r2 r3 r4 r5 r6 r7 r8 r9 r10 r11 r12 r13 r14 r15 p kk uu t0 t1 t2 t3 t4 sc hh : Int) (k u a b : Int) (w : World)
    (_ : (Lit.int .u32 r0).wf = true) (_ : (Lit.int .u32 r1).wf = true) (_ : (Lit.int .u32 r2).wf = true) (_ : (Lit.int .u32 r3).wf = true) (_ : (Lit.int .u32 r4).wf = true) (_ : (Lit.int .u32 r5).wf = true) (_ : (Lit.int .u32 r6).wf = true) (_ : (Lit.int .u32 r7).wf = true) (_ : (Lit.int .u32 r8).wf = true) (_ : (Lit.int .u32 r9).wf = true) (_ : (Lit.int .u32 r10).wf = true) (_ : (Lit.int .u32 r11).wf = true) (_ : (Lit.int .u32 r12).wf = true) (_ : (Lit.int .u32 r13).wf = true) (_ : (Lit.int .u32 r14).wf = true) (_ : (Lit.int .u32 r15).wf = true) (_ : (Lit.int .u32 p).wf = true) (_ : (Lit.int .u32 kk).wf = true) (_ : (Lit.int .u32 uu).wf = true) (_ : (Lit.int .u32 t0).wf = true) (_ : (Lit.int .u32 t1).wf = true) (_ : (Lit.int .u32 t2).wf = true) (_ : (Lit.int .u32 t3).wf = true) (_ : (Lit.int .u32 t4).wf = true) (_ : (Lit.int .u32 sc).wf = true) (_ : (Lit.int .i64 hh).wf = true) (_ : (Lit.int .u32 k).wf = true) (_ : (Lit.int .u32 u).wf = true) (_ : (Lit.int .u32 a).wf = true) (_ : (Lit.int .u32 b).wf = true) :
    Calls Try.prog 9 #[.agg #[.int .u32 r0, .int .u32 r1, .int .u32 r2, .int .u32 r3, .int .u32 r4, .int .u32 r5, .int .u32 r6, .int .u32 r7, .int .u32 r8, .int .u32 r9, .int .u32 r10, .int .u32 r11, .int .u32 r12, .int .u32 r13, .int .u32 r14, .int .u32 r15, .int .u32 p, .int .u32 kk, .int .u32 uu, .int .u32 t0, .int .u32 t1, .int .u32 t2, .int .u32 t3, .int .u32 t4, .int .u32 sc, .int .i64 hh], .int .u32 k, .int .u32 u, .int .u32 a, .int .u32 b] w fun e w' => e = .returned (.bool true) ∧ Below w.heap.size w w' :=
  stacks_ok (vec r0 r1 r2 r3 r4 r5 r6 r7 r8 r9 r10 r11 r12 r13 r14 r15) p kk uu t0 t1 t2 t3 t4 sc hh k u a b w
end Go.Proofs.Ytbgcbnlpjjhmhaa.RegsWalk
