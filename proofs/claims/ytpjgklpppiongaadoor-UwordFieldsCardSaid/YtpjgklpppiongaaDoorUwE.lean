/- The words' laws of layer 14: words compared; alive; Packs, Back. -/
import Derived.Test.YtpjgklpppiongaaDoorUwD
import Derived.Test.YtpjgklpppiongaaDoorWEqStruct
namespace Go.Proofs.YtpjgklpppiongaaDoor.UwWalk
open Go.RowKit Go.Proofs.YtpjgklpppiongaaDoor.Aid Go.Proofs.YtpjgklpppiongaaDoorW.PrintWords Go.Proofs.YtpjgklpppiongaaDoorW.PrintLast Go.Proofs.YtpjgklpppiongaaDoorW.PrintMore
set_option linter.unusedVariables false
set_option linter.unusedSimpArgs false
/-- Are two words the same? -/
def eqW (a b : Nat → Int) : Bool := (a 0 == b 0 && (a 1 == b 1 && (a 2 == b 2 && (a 3 == b 3 && (a 4 == b 4 && (a 5 == b 5 && (a 6 == b 6 && (a 7 == b 7 && (a 8 == b 8 && (a 9 == b 9 && (a 10 == b 10 && a 11 == b 11)))))))))))
theorem eqW_refl (a : Nat → Int) : eqW a a = true := by simp [eqW]
theorem eqW_of (a b : Nat → Int) (h : ∀ i, i < 12 → a i = b i) : eqW a b = true := by
  unfold eqW
  rw [h 0 (by decide), h 1 (by decide), h 2 (by decide), h 3 (by decide), h 4 (by decide), h 5 (by decide), h 6 (by decide), h 7 (by decide), h 8 (by decide), h 9 (by decide), h 10 (by decide), h 11 (by decide)]
  simp
theorem eqW_at {a b : Nat → Int} (h : eqW a b = true) (i : Nat) (hi : i < 12) : a i = b i := by
  simp only [eqW, Bool.and_eq_true, beq_iff_eq] at h
  match i, hi with
  | 0, _ => exact h.1
  | 1, _ => exact h.2.1
  | 2, _ => exact h.2.2.1
  | 3, _ => exact h.2.2.2.1
  | 4, _ => exact h.2.2.2.2.1
  | 5, _ => exact h.2.2.2.2.2.1
  | 6, _ => exact h.2.2.2.2.2.2.1
  | 7, _ => exact h.2.2.2.2.2.2.2.1
  | 8, _ => exact h.2.2.2.2.2.2.2.2.1
  | 9, _ => exact h.2.2.2.2.2.2.2.2.2.1
  | 10, _ => exact h.2.2.2.2.2.2.2.2.2.2.1
  | 11, _ => exact h.2.2.2.2.2.2.2.2.2.2.2
theorem eqA_word (d : Nat) (w : World) (a b : Nat → Int) : (Op.equalIn (d + 2) 23 (.agg (wcells a)) (.agg (wcells b))).run Tryd.prog w = .ok (eqW a b) w := by
  unfold wcells eqW
  refine eqA_of Tryd.underlying23 (by kernel_rfl) ?_
  refine eqf_cons (by rfl) (by go_simp; rfl) (by go_simp; rfl) (by go_simp) ?_
  refine eqf_cons (by rfl) (by go_simp; rfl) (by go_simp; rfl) (by go_simp) ?_
  refine eqf_cons (by rfl) (by go_simp; rfl) (by go_simp; rfl) (by go_simp) ?_
  refine eqf_cons (by rfl) (by go_simp; rfl) (by go_simp; rfl) (by go_simp) ?_
  refine eqf_cons (by rfl) (by go_simp; rfl) (by go_simp; rfl) (by go_simp) ?_
  refine eqf_cons (by rfl) (by go_simp; rfl) (by go_simp; rfl) (by go_simp) ?_
  refine eqf_cons (by rfl) (by go_simp; rfl) (by go_simp; rfl) (by go_simp) ?_
  refine eqf_cons (by rfl) (by go_simp; rfl) (by go_simp; rfl) (by go_simp) ?_
  refine eqf_cons (by rfl) (by go_simp; rfl) (by go_simp; rfl) (by go_simp) ?_
  refine eqf_cons (by rfl) (by go_simp; rfl) (by go_simp; rfl) (by go_simp) ?_
  refine eqf_cons (by rfl) (by go_simp; rfl) (by go_simp; rfl) (by go_simp) ?_
  exact eqf_last (by rfl) (by go_simp; rfl) (by go_simp; rfl) (by go_simp)
theorem eq_word_in (w : World) (a b : Nat → Int) : (Op.equal 23 (.agg (wcells a)) (.agg (wcells b))).run Tryd.prog w = .ok (eqW a b) w := eqA_word 9998 w a b
theorem eq_word_run (w : World) (a b : Nat → Int) : (binOp .eql 23 (.agg (wcells a)) (.agg (wcells b))).run Tryd.prog w = .ok (.bool (eqW a b)) w := by
  simp [binOp, eq_word_in w a b]
/-- Pack, in one word. -/
theorem pack_call (w : World) (a : Nat → Int) (hF : FieldsAt w) :
    Calls Tryd.prog 11 #[.agg (wcells a)] w fun e w' => e = .returned (if goodV a = true then .tuple #[.int .u64 (packN (fun i => (a i).toNat) 12), .int .i64 0] else .tuple #[.int .u64 0, .int .i64 1]) ∧ Below w.heap.size w w' := by
  by_cases h : goodV a = true
  · rw [if_pos h]; exact pack_yes w a hF h
  · rw [if_neg h]; exact pack_no w a hF (Bool.eq_false_iff.2 h)
theorem alive_call (w : World) (hF : FieldsAt w) : Calls Tryd.prog 9 #[] w fun e w' => e = .returned (.bool true) ∧ Below w.heap.size w w' := by
  have P0 : Calls Tryd.prog 11 #[.agg #[.int .i64 1, .int .i64 2, .int .i64 0, .int .i64 0, .int .i64 0, .int .i64 0, .int .i64 0, .int .i64 0, .int .i64 0, .int .i64 0, .int .i64 0, .int .i64 0]] w fun e w' => e = .returned (.tuple #[.int .u64 65, .int .i64 0]) ∧ Below w.heap.size w w' :=
    pack_yes w (fun i => if i = 0 then 1 else if i = 1 then 2 else 0) hF (by decide)
  have P := Aside0.mk P0
  clear P0 hF
  go_enter Tryd.func9, Tryd.ntmps9
  go_wp2_with (first | (go_at_call 11; (with_reducible refine (P.out).mono ?_); rintro e w1 ⟨rfl, hb⟩))
  go_ret
  exact ⟨rfl, hb⟩
theorem packs_walk (w : World) (a : Nat → Int) (x : Nat) (hx : x < 18446744073709551616) (hF : FieldsAt w) :
    Calls Tryd.prog 3 #[.agg (wcells a), .int .u64 x] w fun e w' => e = .returned (.bool true) ∧ Below w.heap.size w w' := by
  have F := Aside0.mk hF
  have F1 := Aside0.mk (hF.then (below_alloc (Below.refl _ _) (.cells (wcells a) 23 (0, 0))))
  have A := Aside0.mk (fun (w : World) (h : FieldsAt w) => alive_call w h)
  have B1 := Aside0.mk (below_alloc (Below.refl w.heap.size w) (.cells (wcells a) 23 (0, 0)))
  have HW := Aside0.mk (show WordAt (w.alloc (.cells (wcells a) 23 (0, 0))) w.heap.size a from blk_new _ _)
  have heq : ∀ (w : World) (y : Nat → Int), (binOp .eql 23 (.agg (wcells y)) (.agg (wcells y))).run Tryd.prog w = .ok (.bool true) w := fun w y => by rw [eq_word_run, eqW_refl]
  clear hF
  by_cases hg : goodV a = true
  · have RG := Aside0.mk (fun w => by have := rgood_call w a; rw [hg] at this; exact this)
    have PY := Aside0.mk (fun w h => pack_yes w a h hg)
    have GD := Aside0.mk (fun w h => by have := good_call w a h; rw [hg] at this; exact this)
    have RP := fun w => rpack_call w a hg
    unfold wcells at RP
    have RP := Aside0.mk RP
    have UP := Aside0.mk (fun w h => unpack_call w x hx h)
    have RU := Aside0.mk (fun w => runpack_call w x hx)
    clear hg
    go_enter Tryd.func3, Tryd.ntmps3
    go_wp2_with (first
      | (go_at_call 9; (with_reducible refine (A.out _ F1.out).mono ?_); rintro e w1 ⟨rfl, hb⟩; have C1 := Aside0.mk (hb); clear hb)
      | (refine wpList_load_row rfl 23 (.tmp 2) rfl w.heap.size rfl _ _ _ _ (HW.out.then C1.out) Tryd.underlying23 rfl infoW ?_)
      | (go_at_call 10; (with_reducible refine (RG.out _).mono ?_); rintro e w2 ⟨rfl, hb⟩; have C2 := Aside0.mk (below_step C1.out hb); clear hb)
      | (refine wpList_load_row rfl 23 (.tmp 2) rfl w.heap.size rfl _ _ _ _ (HW.out.then C2.out) Tryd.underlying23 rfl infoW ?_)
      | (go_at_call 11; (with_reducible refine (PY.out _ (F1.out.then C2.out)).mono ?_); rintro e w3 ⟨rfl, hb⟩; have C3 := Aside0.mk (below_step C2.out hb); clear hb)
      | (refine wpList_load_row rfl 23 (.tmp 2) rfl w.heap.size rfl _ _ _ _ (HW.out.then C3.out) Tryd.underlying23 rfl infoW ?_)
      | (go_at_call 12; (with_reducible refine (GD.out _ (F1.out.then C3.out)).mono ?_); rintro e w4 ⟨rfl, hb⟩; have C4 := Aside0.mk (below_step C3.out hb); clear hb; have z0 := (HW.out.then C4.out).cell 0 (by decide); have z1 := (HW.out.then C4.out).cell 1 (by decide); have z2 := (HW.out.then C4.out).cell 2 (by decide); have z3 := (HW.out.then C4.out).cell 3 (by decide); have z4 := (HW.out.then C4.out).cell 4 (by decide); have z5 := (HW.out.then C4.out).cell 5 (by decide); have z6 := (HW.out.then C4.out).cell 6 (by decide); have z7 := (HW.out.then C4.out).cell 7 (by decide); have z8 := (HW.out.then C4.out).cell 8 (by decide); have z9 := (HW.out.then C4.out).cell 9 (by decide); have z10 := (HW.out.then C4.out).cell 10 (by decide); have z11 := (HW.out.then C4.out).cell 11 (by decide))
      | (go_at_call 13; (with_reducible refine (RP.out _).mono ?_); rintro e w5 ⟨rfl, hb⟩; have C5 := Aside0.mk (below_step C4.out hb); clear hb z0 z1 z2 z3 z4 z5 z6 z7 z8 z9 z10 z11)
      | (go_at_call 14; (with_reducible refine (UP.out _ (F1.out.then C5.out)).mono ?_); rintro e w6 ⟨rfl, hb⟩; have C6 := Aside0.mk (below_step C5.out hb); clear hb)
      | (go_at_call 15; (with_reducible refine (RU.out _).mono ?_); rintro e w7 ⟨rfl, hb⟩; have C7 := Aside0.mk (below_step C6.out hb); clear hb))
    go_ret
    exact ⟨rfl, below_step B1.out C7.out⟩
  · have hg' : goodV a = false := Bool.eq_false_iff.2 hg
    have RG := Aside0.mk (fun w => by have := rgood_call w a; rw [hg'] at this; exact this)
    have PY := Aside0.mk (fun w h => pack_no w a h hg')
    have GD := Aside0.mk (fun w h => by have := good_call w a h; rw [hg'] at this; exact this)
    have UP := Aside0.mk (fun w h => unpack_call w x hx h)
    have RU := Aside0.mk (fun w => runpack_call w x hx)
    clear hg hg'
    go_enter Tryd.func3, Tryd.ntmps3
    go_wp2_with (first
      | (go_at_call 9; (with_reducible refine (A.out _ F1.out).mono ?_); rintro e w1 ⟨rfl, hb⟩; have C1 := Aside0.mk (hb); clear hb)
      | (refine wpList_load_row rfl 23 (.tmp 2) rfl w.heap.size rfl _ _ _ _ (HW.out.then C1.out) Tryd.underlying23 rfl infoW ?_)
      | (go_at_call 10; (with_reducible refine (RG.out _).mono ?_); rintro e w2 ⟨rfl, hb⟩; have C2 := Aside0.mk (below_step C1.out hb); clear hb)
      | (refine wpList_load_row rfl 23 (.tmp 2) rfl w.heap.size rfl _ _ _ _ (HW.out.then C2.out) Tryd.underlying23 rfl infoW ?_)
      | (go_at_call 11; (with_reducible refine (PY.out _ (F1.out.then C2.out)).mono ?_); rintro e w3 ⟨rfl, hb⟩; have C3 := Aside0.mk (below_step C2.out hb); clear hb)
      | (refine wpList_load_row rfl 23 (.tmp 2) rfl w.heap.size rfl _ _ _ _ (HW.out.then C3.out) Tryd.underlying23 rfl infoW ?_)
      | (go_at_call 12; (with_reducible refine (GD.out _ (F1.out.then C3.out)).mono ?_); rintro e w4 ⟨rfl, hb⟩; have C4 := Aside0.mk (below_step C3.out hb); clear hb)
      | (go_at_call 14; (with_reducible refine (UP.out _ (F1.out.then C4.out)).mono ?_); rintro e w6 ⟨rfl, hb⟩; have C6 := Aside0.mk (below_step C4.out hb); clear hb)
      | (go_at_call 15; (with_reducible refine (RU.out _).mono ?_); rintro e w7 ⟨rfl, hb⟩; have C7 := Aside0.mk (below_step C6.out hb); clear hb))
    go_ret
    exact ⟨rfl, below_step B1.out C7.out⟩
theorem WordAt.all {W : World} {g : Nat} {a : Nat → Int} (h : WordAt W g a) : W.cell? ⟨g, 0, none⟩ = some (.int .i64 (a 0)) ∧ W.cell? ⟨g, 1, none⟩ = some (.int .i64 (a 1)) ∧ W.cell? ⟨g, 2, none⟩ = some (.int .i64 (a 2)) ∧ W.cell? ⟨g, 3, none⟩ = some (.int .i64 (a 3)) ∧ W.cell? ⟨g, 4, none⟩ = some (.int .i64 (a 4)) ∧ W.cell? ⟨g, 5, none⟩ = some (.int .i64 (a 5)) ∧ W.cell? ⟨g, 6, none⟩ = some (.int .i64 (a 6)) ∧ W.cell? ⟨g, 7, none⟩ = some (.int .i64 (a 7)) ∧ W.cell? ⟨g, 8, none⟩ = some (.int .i64 (a 8)) ∧ W.cell? ⟨g, 9, none⟩ = some (.int .i64 (a 9)) ∧ W.cell? ⟨g, 10, none⟩ = some (.int .i64 (a 10)) ∧ W.cell? ⟨g, 11, none⟩ = some (.int .i64 (a 11)) :=
  ⟨h.cell 0 (by decide), h.cell 1 (by decide), h.cell 2 (by decide), h.cell 3 (by decide), h.cell 4 (by decide), h.cell 5 (by decide), h.cell 6 (by decide), h.cell 7 (by decide), h.cell 8 (by decide), h.cell 9 (by decide), h.cell 10 (by decide), h.cell 11 (by decide)⟩
theorem pack_unp (x k : Nat) : packN (fun i => unpN x i) k = x % 2 ^ offN k := by
  induction k with
  | zero => simp [packN, offN, Nat.mod_one]
  | succ k ih =>
    show packN (fun i => unpN x i) k + unpN x k * 2 ^ offN k = x % 2 ^ (offN k + fb k)
    rw [ih, Nat.pow_add, Nat.mod_mul]
    unfold unpN
    rw [Nat.mul_comm]
theorem unp_lt (x i : Nat) : unpN x i < 2 ^ fb i := Nat.mod_lt _ (Nat.pow_pos (by decide))
theorem unp_pack (m : Nat → Nat) (n i : Nat) (hm : ∀ j, j < n → m j < 2 ^ fb j) (hi : i < n) : unpN (packN m n) i = m i := by
  induction n with
  | zero => omega
  | succ n ih =>
    have hl := packN_lt m n (fun j hj => hm j (by omega))
    have e1 : packN m (n + 1) = packN m n + m n * 2 ^ offN n := rfl
    by_cases h : i = n
    · subst h
      unfold unpN
      rw [e1, Nat.add_mul_div_right _ _ (Nat.pow_pos (by decide)), Nat.div_eq_of_lt hl, Nat.zero_add, Nat.mod_eq_of_lt (hm i (by omega))]
    · rw [← ih (fun j hj => hm j (by omega)) (by omega)]
      have hoff : ∀ n, i < n → offN i + fb i ≤ offN n := by
        intro n
        induction n with
        | zero => intro h; omega
        | succ q ihq =>
          intro h1
          show _ ≤ offN q + fb q
          by_cases h2 : i = q
          · subst h2; exact Nat.le_refl _
          · have := ihq (by omega); omega
      have ho := hoff n (by omega)
      obtain ⟨r, hr⟩ : ∃ r, offN n = offN i + (fb i + r) := ⟨offN n - offN i - fb i, by omega⟩
      unfold unpN
      rw [e1, hr, Nat.pow_add, Nat.pow_add, show m n * (2 ^ offN i * (2 ^ fb i * 2 ^ r)) = (m n * 2 ^ r * 2 ^ fb i) * 2 ^ offN i from by simp only [Nat.mul_comm, Nat.mul_left_comm, Nat.mul_assoc], Nat.add_mul_div_right _ _ (Nat.pow_pos (by decide)), Nat.add_mul_mod_self_right]
theorem unpTo_good (x : Nat) : goodV (unpTo x 12) = true := by
  unfold goodV
  refine List.all_eq_true.2 fun i hi => ?_
  have hi := List.mem_range.1 hi
  unfold fitsV unpTo
  rw [if_pos hi]
  have := unp_lt x i
  refine decide_eq_true ⟨by omega, ?_⟩
  rw [show ((2 : Int) ^ fb i) = ((2 ^ fb i : Nat) : Int) from by simp]
  omega
theorem packN_congr (m m' : Nat → Nat) (n : Nat) (h : ∀ i, i < n → m i = m' i) : packN m n = packN m' n := by
  induction n with
  | zero => rfl
  | succ n ih => unfold packN; rw [ih (fun i hi => h i (by omega)), h n (by omega)]
theorem pack_unpTo (x : Nat) (hx : x < 18446744073709551616) : packN (fun i => (unpTo x 12 i).toNat) 12 = x := by
  rw [packN_congr _ (fun i => unpN x i) 12 (fun i hi => by unfold unpTo; rw [if_pos hi]; rfl), pack_unp]
  exact Nat.mod_eq_of_lt hx
theorem unpTo_pack (a : Nat → Int) (hg : goodV a = true) (i : Nat) (hi : i < 12) : unpTo (packN (fun i => (a i).toNat) 12) 12 i = a i := by
  unfold unpTo
  rw [if_pos hi, unp_pack _ 12 i (fun j hj => (good_nat hg j hj).2) hi]
  exact (good_nat hg i hi).1.symm
theorem back_walk (w : World) (a : Nat → Int) (x : Nat) (hx : x < 18446744073709551616) (hF : FieldsAt w) :
    Calls Tryd.prog 4 #[.agg (wcells a), .int .u64 x] w fun e w' => e = .returned (.bool true) ∧ Below w.heap.size w w' := by
  have F1 := Aside0.mk (hF.then (below_alloc (Below.refl _ _) (.cells (wcells a) 23 (0, 0))))
  have A := Aside0.mk (fun (w : World) (h : FieldsAt w) => alive_call w h)
  have B1 := Aside0.mk (below_alloc (Below.refl w.heap.size w) (.cells (wcells a) 23 (0, 0)))
  have HW := Aside0.mk (show WordAt (w.alloc (.cells (wcells a) 23 (0, 0))) w.heap.size a from blk_new _ _)
  have UP := Aside0.mk (fun w h => unpack_call w x hx h)
  have PU := Aside0.mk (fun w h => by have := pack_yes w (unpTo x 12) h (unpTo_good x); rw [pack_unpTo x hx] at this; exact this)
  clear hF
  by_cases hg : goodV a = true
  · have PY := Aside0.mk (fun w h => pack_yes w a h hg)
    have hq : ∀ W, (binOp .eql 23 (.agg (wcells (unpTo (packN (fun i => (a i).toNat) 12) 12))) (.agg #[.int .i64 (a 0), .int .i64 (a 1), .int .i64 (a 2), .int .i64 (a 3), .int .i64 (a 4), .int .i64 (a 5), .int .i64 (a 6), .int .i64 (a 7), .int .i64 (a 8), .int .i64 (a 9), .int .i64 (a 10), .int .i64 (a 11)])).run Tryd.prog W = .ok (.bool true) W := fun W => by
      have := eq_word_run W (unpTo (packN (fun i => (a i).toNat) 12) 12) a
      rw [eqW_of _ _ (unpTo_pack a hg)] at this
      exact this
    have hz : packN (fun i => (a i).toNat) 12 < 18446744073709551616 := packN_lt _ 12 (fun j hj => (good_nat hg j hj).2)
    have UZ := Aside0.mk (fun w h => unpack_call w (packN (fun i => (a i).toNat) 12) hz h)
    clear hg hz
    generalize packN (fun i => (a i).toNat) 12 = z at *
    go_enter Tryd.func4, Tryd.ntmps4
    go_wp2_with (first
      | (go_at_call 9; (with_reducible refine (A.out _ F1.out).mono ?_); rintro e w1 ⟨rfl, hb⟩; have C1 := Aside0.mk (hb); clear hb)
      | (go_at_call 14; (with_reducible refine (UP.out _ (F1.out.then C1.out)).mono ?_); rintro e w2 ⟨rfl, hb⟩; have C2 := Aside0.mk (below_step C1.out hb); clear hb)
      | (go_at_call 11; (with_reducible refine (PU.out _ (F1.out.then C2.out)).mono ?_); rintro e w3 ⟨rfl, hb⟩; have C3 := Aside0.mk (below_step C2.out hb); clear hb)
      | (refine wpList_load_row rfl 23 (.tmp 2) rfl w.heap.size rfl _ _ _ _ (HW.out.then C3.out) Tryd.underlying23 rfl infoW ?_)
      | (go_at_call 11; (with_reducible refine (PY.out _ (F1.out.then C3.out)).mono ?_); rintro e w4 ⟨rfl, hb⟩; have C4 := Aside0.mk (below_step C3.out hb); clear hb))
    have HK : Aside0 (∀ W, Below w4.heap.size w4 W → WordAt W w.heap.size a) := ⟨fun W h => HW.out.then (below_step C4.out h)⟩
    have hS := (HK.out w4 (Below.refl _ _)).all
    go_region_held3 (fun W => W.cell? ⟨w.heap.size, 0, none⟩ = some (.int .i64 (a 0)) ∧ W.cell? ⟨w.heap.size, 1, none⟩ = some (.int .i64 (a 1)) ∧ W.cell? ⟨w.heap.size, 2, none⟩ = some (.int .i64 (a 2)) ∧ W.cell? ⟨w.heap.size, 3, none⟩ = some (.int .i64 (a 3)) ∧ W.cell? ⟨w.heap.size, 4, none⟩ = some (.int .i64 (a 4)) ∧ W.cell? ⟨w.heap.size, 5, none⟩ = some (.int .i64 (a 5)) ∧ W.cell? ⟨w.heap.size, 6, none⟩ = some (.int .i64 (a 6)) ∧ W.cell? ⟨w.heap.size, 7, none⟩ = some (.int .i64 (a 7)) ∧ W.cell? ⟨w.heap.size, 8, none⟩ = some (.int .i64 (a 8)) ∧ W.cell? ⟨w.heap.size, 9, none⟩ = some (.int .i64 (a 9)) ∧ W.cell? ⟨w.heap.size, 10, none⟩ = some (.int .i64 (a 10)) ∧ W.cell? ⟨w.heap.size, 11, none⟩ = some (.int .i64 (a 11)))
      (first | exact (HK.out _ (by assumption)).all | exact (HK.out _ ((Below.refl _ _).drew)).all)
      (first
      | (go_at_call 14; (with_reducible refine (UZ.out _ (F1.out.then (below_step C4.out ((Below.refl _ _).drew)))).mono ?_); rintro e w5 ⟨rfl, hb⟩; have hb5 : Below w4.heap.size w4 w5 := ((Below.refl w4.heap.size w4).drew).trans hb; clear hb))
    all_goals
      go_wp2
      go_ret
      exact ⟨rfl, below_step B1.out (below_step C4.out (by assumption))⟩
  · have hg' : goodV a = false := Bool.eq_false_iff.2 hg
    have PY := Aside0.mk (fun w h => pack_no w a h hg')
    clear hg hg'
    go_enter Tryd.func4, Tryd.ntmps4
    go_wp2_with (first
      | (go_at_call 9; (with_reducible refine (A.out _ F1.out).mono ?_); rintro e w1 ⟨rfl, hb⟩; have C1 := Aside0.mk (hb); clear hb)
      | (go_at_call 14; (with_reducible refine (UP.out _ (F1.out.then C1.out)).mono ?_); rintro e w2 ⟨rfl, hb⟩; have C2 := Aside0.mk (below_step C1.out hb); clear hb)
      | (go_at_call 11; (with_reducible refine (PU.out _ (F1.out.then C2.out)).mono ?_); rintro e w3 ⟨rfl, hb⟩; have C3 := Aside0.mk (below_step C2.out hb); clear hb)
      | (refine wpList_load_row rfl 23 (.tmp 2) rfl w.heap.size rfl _ _ _ _ (HW.out.then C3.out) Tryd.underlying23 rfl infoW ?_)
      | (go_at_call 11; (with_reducible refine (PY.out _ (F1.out.then C3.out)).mono ?_); rintro e w4 ⟨rfl, hb⟩; have C4 := Aside0.mk (below_step C3.out hb); clear hb))
    go_quiet (fail)
    go_wp2
    go_ret
    exact ⟨rfl, below_step B1.out (pw_below_drewN C4.out _)⟩
end Go.Proofs.YtpjgklpppiongaaDoor.UwWalk
