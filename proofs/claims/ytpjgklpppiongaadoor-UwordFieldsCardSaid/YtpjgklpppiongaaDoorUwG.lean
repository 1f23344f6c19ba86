/- The words' functions of layer 14, walked: index, Bits, Get, Set. -/
import Derived.Test.YtpjgklpppiongaaDoorUwE
namespace Go.Proofs.YtpjgklpppiongaaDoor.UwWalk
open Go.RowKit Go.Proofs.YtpjgklpppiongaaDoor.Aid Go.Proofs.YtpjgklpppiongaaDoorW.PrintWords Go.Proofs.YtpjgklpppiongaaDoorW.PrintLast Go.Proofs.YtpjgklpppiongaaDoorW.PrintMore
set_option linter.unusedVariables false
set_option linter.unusedSimpArgs false
/-- A name's place; -1: none. -/
def idxN (s : ByteArray) : Nat → Int
  | 0 => -1
  | k + 1 => if idxN s k = -1 ∧ nm k = s then (k : Int) else idxN s k
theorem idxN_none (s : ByteArray) : ∀ k, (∀ j, j < k → nm j ≠ s) → idxN s k = -1
  | 0, _ => rfl
  | k + 1, h => by unfold idxN; rw [if_neg (fun q => h k (by omega) q.2), idxN_none s k (fun j hj => h j (by omega))]
theorem idxN_some (s : ByteArray) (i : Nat) : ∀ k, i < k → nm i = s → (∀ j, j < i → nm j ≠ s) → idxN s k = i
  | 0, h, _, _ => absurd h (Nat.not_lt_zero _)
  | k + 1, h, he, hn => by
    unfold idxN
    by_cases hik : i = k
    · subst hik
      rw [if_pos ⟨idxN_none s i hn, he⟩]
    · rw [idxN_some s i k (by omega) he hn, if_neg (by omega)]
theorem idxfunc_call (w : World) (s : ByteArray) (q : Nat) (hq : w.cell? ⟨q, 0, none⟩ = some (.string s)) (hq2 : q < w.heap.size) (hF : FieldsAt w) :
    Calls Tryd.prog 30 #[.slice (some ⟨0, 0, none⟩) 12 12, .func (.func 31) #[] #[.pointer (some ⟨q, 0, none⟩)]] w fun e w' => e = .returned (.int .i64 (idxN s 12)) ∧ Below w.heap.size w w' := by
  have HF := Aside0.mk hF
  have HQ := Aside0.mk hq
  clear hF hq
  go_enter Tryd.func30, Tryd.ntmps30
  go_wp2
  go_loopw [8] (fun i wr => ∃ k : Nat, k ≤ 12 ∧ i = .int .i64 k ∧ Below w.heap.size w wr ∧ Aside0 (∀ j, j < k → nm j ≠ s)) (fun i _ => 12 - (intOf i).toNat)
  case atStart => exact ⟨0, Nat.zero_le _, rfl, Below.refl _ _, ⟨fun j hj => absurd hj (Nat.not_lt_zero _)⟩⟩
  case round =>
    obtain ⟨k, hk, rfl, hb, hn⟩ := hrel
    have HB := Aside0.mk hb
    by_cases hkn : k = 12
    · subst hkn
      clear hb
      go_wp2
      go_ret
      refine ⟨?_, HB.out⟩
      rw [idxN_none s 12 hn.out]
      rfl
    · have hk' : k < 12 := by omega
      have hk'' : (k : Int) < 12 := by omega
      have c0 := (HF.out.then hb).name k hk'
      have c1 := (HF.out.then hb).bits k hk'
      have cq : ∀ o, (wr.alloc o).cell? ⟨q, 0, none⟩ = some (.string s) := fun o => ((below_alloc HB.out o).cell (p := ⟨q, 0, none⟩) hq2).trans HQ.out
      clear hb
      generalize hy1 : nm k = y1 at *
      have HY1 := Aside0.mk hy1
      clear hy1
      by_cases he : y1 = s
      · subst he
        have E := Aside0.mk (idxN_some y1 k 12 hk' HY1.out hn.out)
        go_wp2
        go_ret
        refine ⟨?_, below_alloc HB.out _⟩
        rw [E.out]
        rfl
      · have he' : (y1.toList == s.toList) = false := beq_eq_false_iff_ne.mpr (fun q => he (ByteArray.ext (by simpa [ByteArray.toList_eq] using q)))
        go_wp2
        go_roundw
        case rel =>
          refine ⟨k + 1, by omega, rfl, below_alloc HB.out _, ⟨fun j hj => ?_⟩⟩
          by_cases hjk : j = k
          · subst hjk; rw [HY1.out]; exact he
          · exact hn.out j (by omega)
        case measure => simp [intOf]; omega
theorem index_call (w : World) (s : ByteArray) (hF : FieldsAt w) :
    Calls Tryd.prog 29 #[.string s] w fun e w' => e = .returned (.int .i64 (idxN s 12)) ∧ Below w.heap.size w w' := by
  have X := Aside0.mk (idxfunc_call (w.alloc (.cells #[.string s] 9)) s w.heap.size (cell_of_row _ _ 0 _ _ _ (blk_new _ _)) (by simp) (hF.then (below_alloc (Below.refl _ _) _)))
  clear hF
  go_enter Tryd.func29, Tryd.ntmps29
  go_wp2_with (first | (go_at_call 30; (with_reducible refine (X.out).mono ?_); rintro e w' ⟨rfl, hb⟩; have B := Aside0.mk hb; clear hb))
  go_ret
  exact ⟨rfl, below_then (below_alloc (Below.refl _ _) _) (by simp) B.out⟩
theorem index_yes (w : World) (s : ByteArray) (k : Nat) (h : idxN s 12 = (k : Int)) (hF : FieldsAt w) :
    Calls Tryd.prog 29 #[.string s] w fun e w' => e = .returned (.int .i64 k) ∧ Below w.heap.size w w' := by
  rw [← h]; exact index_call w s hF
theorem index_no (w : World) (s : ByteArray) (h : idxN s 12 = -1) (hF : FieldsAt w) :
    Calls Tryd.prog 29 #[.string s] w fun e w' => e = .returned (.int .i64 (-1)) ∧ Below w.heap.size w w' := by
  rw [← h]; exact index_call w s hF
theorem idx_cases (s : ByteArray) : ∀ n, idxN s n = -1 ∨ ∃ k : Nat, k < n ∧ idxN s n = k ∧ nm k = s
  | 0 => .inl rfl
  | n + 1 => by
    unfold idxN
    by_cases h : idxN s n = -1 ∧ nm n = s
    · rw [if_pos h]; exact .inr ⟨n, by omega, rfl, h.2⟩
    · rw [if_neg h]
      rcases idx_cases s n with h1 | ⟨k, h1, h2, h3⟩
      · exact .inl h1
      · exact .inr ⟨k, by omega, h2, h3⟩
/-- Bits. -/
theorem bits_no (w : World) (s : ByteArray) (h : idxN s 12 = -1) (hF : FieldsAt w) :
    Calls Tryd.prog 25 #[.string s] w fun e w' => e = .returned (.int .i64 0) ∧ Below w.heap.size w w' := by
  have I := Aside0.mk (index_no w s h hF)
  clear h hF
  go_enter Tryd.func25, Tryd.ntmps25
  go_wp2_with (first | (go_at_call 29; (with_reducible refine (I.out).mono ?_); rintro e w' ⟨rfl, hb⟩; have B := Aside0.mk hb; clear hb))
  go_ret
  exact ⟨rfl, B.out⟩
theorem bits_yes (w : World) (s : ByteArray) (k : Nat) (hk : k < 12) (h : idxN s 12 = (k : Int)) (hF : FieldsAt w) :
    Calls Tryd.prog 25 #[.string s] w fun e w' => e = .returned (.int .i64 (fb k)) ∧ Below w.heap.size w w' := by
  have I := Aside0.mk (index_yes w s k h hF)
  have F := Aside0.mk hF
  have hk'' : (k : Int) < 12 := by omega
  have hk0 : (0 : Int) ≤ k := by omega
  clear h hF
  go_enter Tryd.func25, Tryd.ntmps25
  go_wp2_with (first | (go_at_call 29; (with_reducible refine (I.out).mono ?_); rintro e w' ⟨rfl, hb⟩; have B := Aside0.mk hb; have c1 := (F.out.then hb).bits k hk; clear hb))
  all_goals (go_ret; exact ⟨rfl, B.out⟩)
/-- Get. -/
theorem get_no (w : World) (a : Nat → Int) (s : ByteArray) (h : idxN s 12 = -1) (hF : FieldsAt w) :
    Calls Tryd.prog 20 #[.agg (wcells a), .string s] w fun e w' => e = .returned (.int .i64 0) ∧ Below w.heap.size w w' := by
  have I := Aside0.mk (index_no (w.alloc (.cells (wcells a) 23 (0, 0))) s h (hF.then (below_alloc (Below.refl _ _) _)))
  have B0 := Aside0.mk (below_alloc (Below.refl w.heap.size w) (.cells (wcells a) 23 (0, 0)))
  clear h hF
  go_enter Tryd.func20, Tryd.ntmps20
  go_wp2_with (first | (go_at_call 29; (with_reducible refine (I.out).mono ?_); rintro e w' ⟨rfl, hb⟩; have B := Aside0.mk (below_step B0.out hb); clear hb))
  go_ret
  exact ⟨rfl, B.out⟩
theorem get_yes (w : World) (a : Nat → Int) (s : ByteArray) (k : Nat) (hk : k < 12) (h : idxN s 12 = (k : Int)) (hF : FieldsAt w) :
    Calls Tryd.prog 20 #[.agg (wcells a), .string s] w fun e w' => e = .returned (.int .i64 (a k)) ∧ Below w.heap.size w w' := by
  have I := Aside0.mk (index_yes (w.alloc (.cells (wcells a) 23 (0, 0))) s k h (hF.then (below_alloc (Below.refl _ _) _)))
  have B0 := Aside0.mk (below_alloc (Below.refl w.heap.size w) (.cells (wcells a) 23 (0, 0)))
  have W0 := Aside0.mk (show WordAt (w.alloc (.cells (wcells a) 23 (0, 0))) w.heap.size a from blk_new _ _)
  have hk'' : (k : Int) < 12 := by omega
  have hk0 : (0 : Int) ≤ k := by omega
  have PC := Aside0.mk places_call
  clear h hF
  go_enter Tryd.func20, Tryd.ntmps20
  go_wp2_with (first
    | (go_at_call 29; (with_reducible refine (I.out).mono ?_); rintro e w1 ⟨rfl, hb⟩; have B := Aside0.mk (below_step B0.out hb); have W1 := Aside0.mk (W0.out.then hb); clear hb)
    | (go_at_call 26; (with_reducible refine (PC.out _ _).mono ?_); rintro e w2 ⟨q, rfl, hp, hb, hq⟩; have B2 := Aside0.mk (below_step B.out hb); have c1 := hp.cell k hk; have c2 := (W1.out.then hb).cell k hk; clear hb hp hq))
  go_ret
  exact ⟨rfl, B2.out⟩
end Go.Proofs.YtpjgklpppiongaaDoor.UwWalk
