/- The document's functions of layer 14, walked: Names, At, Set; the program's Fields. -/
import Derived.Test.YtpjgklpppiongaaDoorUwH
namespace Go.Proofs.YtpjgklpppiongaaDoor.UwWalk
open Go.RowKit Go.Proofs.YtpjgklpppiongaaDoor.Aid Go.Proofs.YtpjgklpppiongaaDoorW.PrintWords Go.Proofs.YtpjgklpppiongaaDoorW.PrintLast Go.Proofs.YtpjgklpppiongaaDoorW.PrintMore
set_option linter.unusedVariables false
set_option linter.unusedSimpArgs false
def namesL : Array Value := #[.string (nm 0), .string (nm 1), .string (nm 2), .string (nm 3), .string (nm 4), .string (nm 5), .string (nm 6), .string (nm 7), .string (nm 8), .string (nm 9), .string (nm 10), .string (nm 11)]
theorem namesL_at (i : Nat) (hi : i < 12) : namesL[i]? = some (.string (nm i)) := by
  match i, hi with
  | 0, _ => rfl
  | 1, _ => rfl
  | 2, _ => rfl
  | 3, _ => rfl
  | 4, _ => rfl
  | 5, _ => rfl
  | 6, _ => rfl
  | 7, _ => rfl
  | 8, _ => rfl
  | 9, _ => rfl
  | 10, _ => rfl
  | 11, _ => rfl
def NamesAt (W : World) (b : Nat) : Prop := W.heap[b]? = some (.cells namesL 9 (0, 0))
theorem NamesAt.lt {W : World} {b : Nat} (h : NamesAt W b) : b < W.heap.size := (Array.getElem?_eq_some_iff.1 h).1
theorem NamesAt.then {W W' : World} {b : Nat} (h : NamesAt W b) (k : Below W.heap.size W W') : NamesAt W' b := (k.block b h.lt).trans h
theorem NamesAt.cell {W : World} {b : Nat} (h : NamesAt W b) (i : Nat) (hi : i < 12) : W.cell? ⟨b, i, none⟩ = some (.string (nm i)) := (cell_of_row W b i _ _ _ h).trans (namesL_at i hi)
theorem names_call (w : World) : Calls Tryd.prog 19 #[] w fun e w' => ∃ b, e = .returned (.slice (some ⟨b, 0, none⟩) 12 12) ∧ NamesAt w' b ∧ Below w.heap.size w w' ∧ w.heap.size ≤ b := by
  go_enter Tryd.func19, Tryd.ntmps19
  go_wp2
  go_ret
  exact ⟨_, rfl, blk_new _ _, below_alloc (Below.refl _ _) _, Nat.le_refl _⟩
theorem rat_call (w : World) (s : ByteArray) : Calls Tryd.prog 23 #[.string s] w fun e w' => e = .returned (.int .i64 (idxN s 12)) ∧ Below w.heap.size w w' := by
  have NC := Aside0.mk names_call
  go_enter Tryd.func23, Tryd.ntmps23
  go_wp2_with (first | (go_at_call 19; (with_reducible refine (NC.out _).mono ?_); rintro e w1 ⟨q, rfl, hp, hb, hq⟩; have P := Aside0.mk hp; have B := Aside0.mk hb; clear hp hb hq))
  go_loopw [7] (fun i wr => ∃ k : Nat, k ≤ 12 ∧ i = .int .i64 k ∧ Below w1.heap.size w1 wr ∧ Aside0 (∀ j, j < k → nm j ≠ s)) (fun i _ => 12 - (intOf i).toNat)
  case atStart => exact ⟨0, Nat.zero_le _, rfl, Below.refl _ _, ⟨fun j hj => absurd hj (Nat.not_lt_zero _)⟩⟩
  case round =>
    obtain ⟨k, hk, rfl, hb, hn⟩ := hrel
    have HB := Aside0.mk hb
    by_cases hkn : k = 12
    · subst hkn
      clear hb
      go_wp2
      go_ret
      refine ⟨?_, below_step B.out HB.out⟩
      rw [idxN_none s 12 hn.out]
      rfl
    · have hk' : k < 12 := by omega
      have hk'' : (k : Int) < 12 := by omega
      have c0 := (P.out.then hb).cell k hk'
      clear hb
      generalize hy1 : nm k = y1 at *
      have HY1 := Aside0.mk hy1
      clear hy1
      by_cases he : y1 = s
      · subst he
        have E := Aside0.mk (idxN_some y1 k 12 hk' HY1.out hn.out)
        go_wp2
        go_ret
        refine ⟨?_, by first | exact below_step B.out HB.out | exact below_step B.out HB.out.drew⟩
        rw [E.out]
        rfl
      · have he' : (y1.toList == s.toList) = false := beq_eq_false_iff_ne.mpr (fun q => he (ByteArray.ext (by simpa [ByteArray.toList_eq] using q)))
        go_wp2
        go_roundw
        case rel =>
          refine ⟨k + 1, by omega, rfl, (by first | exact HB.out | exact HB.out.drew), ⟨fun j hj => ?_⟩⟩
          by_cases hjk : j = k
          · subst hjk; rw [HY1.out]; exact he
          · exact hn.out j (by omega)
        case measure => simp [intOf]; omega
theorem rat_yes (w : World) (s : ByteArray) (k : Nat) (h : idxN s 12 = (k : Int)) : Calls Tryd.prog 23 #[.string s] w fun e w' => e = .returned (.int .i64 k) ∧ Below w.heap.size w w' := by
  rw [← h]; exact rat_call w s
theorem rat_no (w : World) (s : ByteArray) (h : idxN s 12 = -1) : Calls Tryd.prog 23 #[.string s] w fun e w' => e = .returned (.int .i64 (-1)) ∧ Below w.heap.size w w' := by
  rw [← h]; exact rat_call w s
theorem rset_none (w : World) (a : Nat → Int) (s : ByteArray) (x : Int) (h : idxN s 12 = -1) :
    Calls Tryd.prog 24 #[.agg (wcells a), .string s, .int .i64 x] w fun e w' => e = .returned (.tuple #[.agg (wcells a), .int .i64 5]) ∧ Below w.heap.size w w' := by
  have B0 := Aside0.mk (below_alloc (below_alloc (Below.refl w.heap.size w) (.cells (wcells a) 23 (0, 0))) (.cells #[.int .i64 0, .int .i64 0, .int .i64 0, .int .i64 0, .int .i64 0, .int .i64 0, .int .i64 0, .int .i64 0, .int .i64 0, .int .i64 0, .int .i64 0, .int .i64 0] 23 (0, 0)))
  have I := Aside0.mk (rat_no ((w.alloc (.cells (wcells a) 23 (0, 0))).alloc (.cells #[.int .i64 0, .int .i64 0, .int .i64 0, .int .i64 0, .int .i64 0, .int .i64 0, .int .i64 0, .int .i64 0, .int .i64 0, .int .i64 0, .int .i64 0, .int .i64 0] 23 (0, 0))) s h)
  have W0 := Aside0.mk (show WordAt ((w.alloc (.cells (wcells a) 23 (0, 0))).alloc (.cells #[.int .i64 0, .int .i64 0, .int .i64 0, .int .i64 0, .int .i64 0, .int .i64 0, .int .i64 0, .int .i64 0, .int .i64 0, .int .i64 0, .int .i64 0, .int .i64 0] 23 (0, 0))) w.heap.size a from (show WordAt (w.alloc (.cells (wcells a) 23 (0, 0))) w.heap.size a from blk_new _ _).then (below_alloc (Below.refl _ _) _))
  have Z0 := Aside0.mk (show WordAt ((w.alloc (.cells (wcells a) 23 (0, 0))).alloc (.cells #[.int .i64 0, .int .i64 0, .int .i64 0, .int .i64 0, .int .i64 0, .int .i64 0, .int .i64 0, .int .i64 0, .int .i64 0, .int .i64 0, .int .i64 0, .int .i64 0] 23 (0, 0))) (w.heap.size + 1) (unpTo 0 0) from blk_new2 _ _ _)
  clear h
  go_enter Tryd.func24, Tryd.ntmps24
  go_wp2_with (first
    | (go_at_call 23; (with_reducible refine (I.out).mono ?_); rintro e w1 ⟨rfl, hb⟩; have B := Aside0.mk (below_step B0.out hb); have W1 := Aside0.mk (W0.out.then hb); have Z1 := Aside0.mk (Z0.out.then hb); clear hb)
    | (refine wpList_load_row rfl 23 (.tmp 3) rfl w.heap.size rfl _ _ _ _ W1.out Tryd.underlying23 rfl infoW ?_)
    | (refine wpList_store_row rfl 23 (.tmp 6) (.tmp 14) rfl (w.heap.size + 1) (wcells a) rfl rfl _ _ Z1.out infoW rfl (by kernel_rfl) ?_))
  refine bodyPost_ret (results_cell_tmp rfl _ _ (w.heap.size + 1) 23 (wcells a) (0, 0) _ rfl (setRow_heap _ (w.heap.size + 1) _ _ 23 _ Z1.out) Tryd.underlying23 rfl infoW) rfl ⟨rfl, below_setRow B.out (Nat.le_succ _) _⟩
theorem rset_neg (w : World) (a : Nat → Int) (s : ByteArray) (x : Int) (k : Nat) (hk : k < 12) (h : idxN s 12 = (k : Int)) (hx : x < 0) :
    Calls Tryd.prog 24 #[.agg (wcells a), .string s, .int .i64 x] w fun e w' => e = .returned (.tuple #[.agg (wcells a), .int .i64 1]) ∧ Below w.heap.size w w' := by
  have B0 := Aside0.mk (below_alloc (below_alloc (Below.refl w.heap.size w) (.cells (wcells a) 23 (0, 0))) (.cells #[.int .i64 0, .int .i64 0, .int .i64 0, .int .i64 0, .int .i64 0, .int .i64 0, .int .i64 0, .int .i64 0, .int .i64 0, .int .i64 0, .int .i64 0, .int .i64 0] 23 (0, 0)))
  have I := Aside0.mk (rat_yes ((w.alloc (.cells (wcells a) 23 (0, 0))).alloc (.cells #[.int .i64 0, .int .i64 0, .int .i64 0, .int .i64 0, .int .i64 0, .int .i64 0, .int .i64 0, .int .i64 0, .int .i64 0, .int .i64 0, .int .i64 0, .int .i64 0] 23 (0, 0))) s k h)
  have W0 := Aside0.mk (show WordAt ((w.alloc (.cells (wcells a) 23 (0, 0))).alloc (.cells #[.int .i64 0, .int .i64 0, .int .i64 0, .int .i64 0, .int .i64 0, .int .i64 0, .int .i64 0, .int .i64 0, .int .i64 0, .int .i64 0, .int .i64 0, .int .i64 0] 23 (0, 0))) w.heap.size a from (show WordAt (w.alloc (.cells (wcells a) 23 (0, 0))) w.heap.size a from blk_new _ _).then (below_alloc (Below.refl _ _) _))
  have Z0 := Aside0.mk (show WordAt ((w.alloc (.cells (wcells a) 23 (0, 0))).alloc (.cells #[.int .i64 0, .int .i64 0, .int .i64 0, .int .i64 0, .int .i64 0, .int .i64 0, .int .i64 0, .int .i64 0, .int .i64 0, .int .i64 0, .int .i64 0, .int .i64 0] 23 (0, 0))) (w.heap.size + 1) (unpTo 0 0) from blk_new2 _ _ _)
  have hk'' : (k : Int) < 12 := by omega
  have hk0 : (0 : Int) ≤ k := by omega
  clear h
  go_enter Tryd.func24, Tryd.ntmps24
  go_wp2_with (first
    | (go_at_call 23; (with_reducible refine (I.out).mono ?_); rintro e w1 ⟨rfl, hb⟩; have B := Aside0.mk (below_step B0.out hb); have W1 := Aside0.mk (W0.out.then hb); have Z1 := Aside0.mk (Z0.out.then hb); clear hb)
    | (refine wpList_load_row rfl 23 (.tmp 3) rfl w.heap.size rfl _ _ _ _ W1.out Tryd.underlying23 rfl infoW ?_)
    | (refine wpList_store_row rfl 23 (.tmp 6) (.tmp 25) rfl (w.heap.size + 1) (wcells a) rfl rfl _ _ Z1.out infoW rfl (by kernel_rfl) ?_))
  refine bodyPost_ret (results_cell_tmp rfl _ _ (w.heap.size + 1) 23 (wcells a) (0, 0) _ rfl (setRow_heap _ (w.heap.size + 1) _ _ 23 _ Z1.out) Tryd.underlying23 rfl infoW) rfl ⟨rfl, below_setRow B.out (Nat.le_succ _) _⟩
theorem rset_big (w : World) (a : Nat → Int) (s : ByteArray) (x : Int) (k : Nat) (hk : k < 12) (h : idxN s 12 = (k : Int)) (hx : 0 ≤ x) (hx2 : wideF k ≤ x) :
    Calls Tryd.prog 24 #[.agg (wcells a), .string s, .int .i64 x] w fun e w' => e = .returned (.tuple #[.agg (wcells a), .int .i64 1]) ∧ Below w.heap.size w w' := by
  have B0 := Aside0.mk (below_alloc (below_alloc (Below.refl w.heap.size w) (.cells (wcells a) 23 (0, 0))) (.cells #[.int .i64 0, .int .i64 0, .int .i64 0, .int .i64 0, .int .i64 0, .int .i64 0, .int .i64 0, .int .i64 0, .int .i64 0, .int .i64 0, .int .i64 0, .int .i64 0] 23 (0, 0)))
  have I := Aside0.mk (rat_yes ((w.alloc (.cells (wcells a) 23 (0, 0))).alloc (.cells #[.int .i64 0, .int .i64 0, .int .i64 0, .int .i64 0, .int .i64 0, .int .i64 0, .int .i64 0, .int .i64 0, .int .i64 0, .int .i64 0, .int .i64 0, .int .i64 0] 23 (0, 0))) s k h)
  have W0 := Aside0.mk (show WordAt ((w.alloc (.cells (wcells a) 23 (0, 0))).alloc (.cells #[.int .i64 0, .int .i64 0, .int .i64 0, .int .i64 0, .int .i64 0, .int .i64 0, .int .i64 0, .int .i64 0, .int .i64 0, .int .i64 0, .int .i64 0, .int .i64 0] 23 (0, 0))) w.heap.size a from (show WordAt (w.alloc (.cells (wcells a) 23 (0, 0))) w.heap.size a from blk_new _ _).then (below_alloc (Below.refl _ _) _))
  have Z0 := Aside0.mk (show WordAt ((w.alloc (.cells (wcells a) 23 (0, 0))).alloc (.cells #[.int .i64 0, .int .i64 0, .int .i64 0, .int .i64 0, .int .i64 0, .int .i64 0, .int .i64 0, .int .i64 0, .int .i64 0, .int .i64 0, .int .i64 0, .int .i64 0] 23 (0, 0))) (w.heap.size + 1) (unpTo 0 0) from blk_new2 _ _ _)
  have WC := Aside0.mk (fun w1 => (wide_call w1).mono (R' := fun e w' => ∃ b, e = .returned (.slice (some ⟨b, 0, none⟩) 12 12) ∧ w'.cell? ⟨b, k, none⟩ = some (.int .i64 (wideF k)) ∧ b < w'.heap.size ∧ Below w1.heap.size w1 w') (fun e w' ⟨b, h1, h2, h3, h4⟩ => ⟨b, h1, h2.cell k hk, h2.lt, h3⟩))
  have hk'' : (k : Int) < 12 := by omega
  have hk0 : (0 : Int) ≤ k := by omega
  clear h
  generalize wideF k = wk at *
  go_enter Tryd.func24, Tryd.ntmps24
  go_wp2_with (first
    | (go_at_call 23; (with_reducible refine (I.out).mono ?_); rintro e w1 ⟨rfl, hb⟩; have B := Aside0.mk (below_step B0.out hb); have W1 := Aside0.mk (W0.out.then hb); have Z1 := Aside0.mk (Z0.out.then hb); clear hb)
    | (go_at_call 17; (with_reducible refine (WC.out _).mono ?_); rintro e w2 ⟨q, rfl, c2, l2, hb⟩; have B2 := Aside0.mk (below_step B.out hb); have W2 := Aside0.mk (W1.out.then hb); have Z2 := Aside0.mk (Z1.out.then hb); clear hb l2)
    | (refine wpList_load_row rfl 23 (.tmp 3) rfl w.heap.size rfl _ _ _ _ W2.out Tryd.underlying23 rfl infoW ?_)
    | (refine wpList_store_row rfl 23 (.tmp 6) (.tmp 25) rfl (w.heap.size + 1) (wcells a) rfl rfl _ _ Z2.out infoW rfl (by kernel_rfl) ?_))
  refine bodyPost_ret (results_cell_tmp rfl _ _ (w.heap.size + 1) 23 (wcells a) (0, 0) _ rfl (setRow_heap _ (w.heap.size + 1) _ _ 23 _ Z2.out) Tryd.underlying23 rfl infoW) rfl ⟨rfl, below_setRow B2.out (Nat.le_succ _) _⟩
theorem rset_ok (w : World) (a : Nat → Int) (s : ByteArray) (x : Int) (k : Nat) (hk : k < 12) (h : idxN s 12 = (k : Int)) (hx : 0 ≤ x) (hx2 : x < wideF k) :
    Calls Tryd.prog 24 #[.agg (wcells a), .string s, .int .i64 x] w fun e w' => e = .returned (.tuple #[.agg (wcells (updF a k x)), .int .i64 0]) ∧ Below w.heap.size w w' := by
  have B0 := Aside0.mk (below_alloc (below_alloc (Below.refl w.heap.size w) (.cells (wcells a) 23 (0, 0))) (.cells #[.int .i64 0, .int .i64 0, .int .i64 0, .int .i64 0, .int .i64 0, .int .i64 0, .int .i64 0, .int .i64 0, .int .i64 0, .int .i64 0, .int .i64 0, .int .i64 0] 23 (0, 0)))
  have I := Aside0.mk (rat_yes ((w.alloc (.cells (wcells a) 23 (0, 0))).alloc (.cells #[.int .i64 0, .int .i64 0, .int .i64 0, .int .i64 0, .int .i64 0, .int .i64 0, .int .i64 0, .int .i64 0, .int .i64 0, .int .i64 0, .int .i64 0, .int .i64 0] 23 (0, 0))) s k h)
  have W0 := Aside0.mk (show WordAt ((w.alloc (.cells (wcells a) 23 (0, 0))).alloc (.cells #[.int .i64 0, .int .i64 0, .int .i64 0, .int .i64 0, .int .i64 0, .int .i64 0, .int .i64 0, .int .i64 0, .int .i64 0, .int .i64 0, .int .i64 0, .int .i64 0] 23 (0, 0))) w.heap.size a from (show WordAt (w.alloc (.cells (wcells a) 23 (0, 0))) w.heap.size a from blk_new _ _).then (below_alloc (Below.refl _ _) _))
  have Z0 := Aside0.mk (show WordAt ((w.alloc (.cells (wcells a) 23 (0, 0))).alloc (.cells #[.int .i64 0, .int .i64 0, .int .i64 0, .int .i64 0, .int .i64 0, .int .i64 0, .int .i64 0, .int .i64 0, .int .i64 0, .int .i64 0, .int .i64 0, .int .i64 0] 23 (0, 0))) (w.heap.size + 1) (unpTo 0 0) from blk_new2 _ _ _)
  have WC := Aside0.mk (fun w1 => (wide_call w1).mono (R' := fun e w' => ∃ b, e = .returned (.slice (some ⟨b, 0, none⟩) 12 12) ∧ w'.cell? ⟨b, k, none⟩ = some (.int .i64 (wideF k)) ∧ b < w'.heap.size ∧ Below w1.heap.size w1 w') (fun e w' ⟨b, h1, h2, h3, h4⟩ => ⟨b, h1, h2.cell k hk, h2.lt, h3⟩))
  have PC := Aside0.mk (fun w1 => parts_call w1 a)
  have DC := Aside0.mk (fun (w1 : World) b (h : IntsAt w1 b (updF a k x)) => word_call w1 b 12 (updF a k x) (fun i hi => h.cell i hi))
  have hk'' : (k : Int) < 12 := by omega
  have hk0 : (0 : Int) ≤ k := by omega
  clear h
  generalize wideF k = wk at *
  go_enter Tryd.func24, Tryd.ntmps24
  go_wp2_with (first
    | (go_at_call 23; (with_reducible refine (I.out).mono ?_); rintro e w1 ⟨rfl, hb⟩; have B := Aside0.mk (below_step B0.out hb); have W1 := Aside0.mk (W0.out.then hb); have Z1 := Aside0.mk (Z0.out.then hb); clear hb)
    | (go_at_call 17; (with_reducible refine (WC.out _).mono ?_); rintro e w2 ⟨q, rfl, c2, l2, hb⟩; have B2 := Aside0.mk (below_step B.out hb); have W2 := Aside0.mk (W1.out.then hb); have Z2 := Aside0.mk (Z1.out.then hb); clear hb l2)
    | (refine wpList_load_row rfl 23 (.tmp 3) rfl w.heap.size rfl _ _ _ _ W2.out Tryd.underlying23 rfl infoW ?_)
    | (go_at_call 16; (with_reducible refine (PC.out _).mono ?_); rintro e w3 ⟨p, rfl, hp, hb, hq⟩; have B3 := Aside0.mk (below_step B2.out hb); have c3 := hp.cell k hk; have f3 := hp.free k; have P3 := Aside0.mk (hp.set k hk x); have hb3 := (Below.refl w3.heap.size w3); have Z3 := Aside0.mk (((Below.heap_setCell w3 ⟨p, k, none⟩ (.int .i64 x) (w.heap.size + 1) (by show w.heap.size + 1 ≠ p; have := Z2.out.lt; omega)).trans (Z2.out.then hb))); have B4 := Aside0.mk (show Below w.heap.size w (w3.setCell ⟨p, k, none⟩ (.int .i64 x)) from B3.out.setCell (by show w.heap.size ≤ p; have := Z2.out.lt; omega) _); clear hb hp hq hb3)
    | (go_at_call 28; (with_reducible refine (DC.out _ _ P3.out).mono ?_); rintro e w5 ⟨rfl, hb⟩; have B5 := Aside0.mk (below_step B4.out hb); have Z5 := Aside0.mk ((show WordAt _ _ (unpTo 0 0) from Z3.out).then hb); clear hb)
    | (refine wpList_store_row rfl 23 (.tmp 6) (.tmp 33) rfl (w.heap.size + 1) (wcells (updF a k x)) rfl rfl _ _ Z5.out infoW rfl (by kernel_rfl) ?_))
  refine bodyPost_ret (results_cell_tmp rfl _ _ (w.heap.size + 1) 23 (wcells (updF a k x)) (0, 0) _ rfl (setRow_heap _ (w.heap.size + 1) _ _ 23 _ Z5.out) Tryd.underlying23 rfl infoW) rfl ⟨rfl, below_setRow B5.out (Nat.le_succ _) _⟩
theorem rset_call (w : World) (a : Nat → Int) (s : ByteArray) (x : Int) :
    Calls Tryd.prog 24 #[.agg (wcells a), .string s, .int .i64 x] w fun e w' => e = .returned (.tuple #[.agg (wcells (setW a s x)), .int .i64 (setE s x)]) ∧ Below w.heap.size w w' := by
  rcases idx_cases s 12 with h | ⟨k, hk, h, _⟩
  · have e1 : setE s x = 5 := by unfold setE; rw [if_pos h]
    have e2 : setW a s x = a := by unfold setW; rw [e1, if_neg (by decide)]
    rw [e1, e2]; exact rset_none w a s x h
  · have hp : ((2 ^ fb k : Nat) : Int) = 2 ^ fb k := by simp
    by_cases hf : fitsV x (fb k) = true
    · have e1 : setE s x = 0 := by unfold setE; rw [h, if_neg (by omega), Int.toNat_natCast, if_pos hf]
      have e2 : setW a s x = updF a k x := by unfold setW; rw [e1, if_pos rfl, h, Int.toNat_natCast]
      have hd := of_decide_eq_true hf
      rw [e1, e2]; exact rset_ok w a s x k hk h hd.1 (by unfold wideF; rw [hp]; exact hd.2)
    · have e1 : setE s x = 1 := by unfold setE; rw [h, if_neg (by omega), Int.toNat_natCast, if_neg hf]
      have e2 : setW a s x = a := by unfold setW; rw [e1, if_neg (by decide)]
      rw [e1, e2]
      have hd := of_decide_eq_false (Bool.eq_false_iff.2 hf)
      by_cases hx : x < 0
      · exact rset_neg w a s x k hk h hx
      · exact rset_big w a s x k hk h (by omega) (by unfold wideF; rw [hp]; exact Int.not_lt.1 fun q => hd ⟨by omega, q⟩)
end Go.Proofs.YtpjgklpppiongaaDoor.UwWalk
