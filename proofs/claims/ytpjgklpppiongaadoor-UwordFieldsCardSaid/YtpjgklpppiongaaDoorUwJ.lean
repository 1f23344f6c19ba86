/- The words' laws of layer 14: Sets. -/
import Derived.Test.YtpjgklpppiongaaDoorUwI
import Derived.Test.YtpjgklpppiongaaDoorUwF
namespace Go.Proofs.YtpjgklpppiongaaDoor.UwWalk
open Go.RowKit Go.Proofs.YtpjgklpppiongaaDoor.Aid Go.Proofs.YtpjgklpppiongaaDoorW.PrintWords Go.Proofs.YtpjgklpppiongaaDoorW.PrintLast Go.Proofs.YtpjgklpppiongaaDoorW.PrintMore
set_option linter.unusedVariables false
set_option linter.unusedSimpArgs false
abbrev SetAt (a : Nat → Int) (s : ByteArray) (x : Int) (b : Nat → Int) (e : Int) : Prop :=
  ∀ W, FieldsAt W → Calls Tryd.prog 18 #[.agg (wcells a), .string s, .int .i64 x] W fun e' w' => e' = .returned (.tuple #[.agg (wcells b), .int .i64 e]) ∧ Below W.heap.size W w'
abbrev GetAt (a : Nat → Int) (s : ByteArray) (x : Int) : Prop :=
  ∀ W, FieldsAt W → Calls Tryd.prog 20 #[.agg (wcells a), .string s] W fun e' w' => e' = .returned (.int .i64 x) ∧ Below W.heap.size W w'
theorem setE_of (s : ByteArray) (x : Int) : setE s x = 0 ∨ (setE s x ≠ 0 ∧ (setE s x = 5 ∨ setE s x = 1)) := by
  unfold setE
  split
  · exact .inr ⟨by decide, .inl rfl⟩
  · split
    · exact .inl rfl
    · exact .inr ⟨by decide, .inr rfl⟩
theorem setE_zero {s : ByteArray} {x : Int} (h : setE s x = 0) : ∃ k : Nat, k < 12 ∧ idxN s 12 = k ∧ nm k = s ∧ fitsV x (fb k) = true := by
  unfold setE at h
  rcases idx_cases s 12 with h1 | ⟨k, hk, h1, h2⟩
  · rw [if_pos h1] at h; exact absurd h (by decide)
  · refine ⟨k, hk, h1, h2, ?_⟩
    rw [h1, if_neg (by omega), Int.toNat_natCast] at h
    by_cases hf : fitsV x (fb k) = true
    · exact hf
    · rw [if_neg hf] at h; exact absurd h (by decide)
theorem str_beq {a b : ByteArray} (h : a ≠ b) : (a.toList == b.toList) = false := beq_eq_false_iff_ne.mpr (fun q => h (ByteArray.ext (by simpa [ByteArray.toList_eq] using q)))
theorem sets_long (w : World) (a : Nat → Int) (s t : ByteArray) (x y : Int) (hF : FieldsAt w) (h : 256 < s.size ∨ 256 < t.size) (hs : s.size ≤ maxLen) (ht : t.size ≤ maxLen) :
    Calls Tryd.prog 7 #[.agg (wcells a), .string s, .string t, .int .i64 x, .int .i64 y] w fun e w' => e = .returned (.bool true) ∧ Below w.heap.size w w' := by
  have A := Aside0.mk (alive_call _ (hF.then (below_alloc (Below.refl _ _) (.cells (wcells a) 23 (0, 0)))))
  have B0 := Aside0.mk (below_alloc (Below.refl w.heap.size w) (.cells (wcells a) 23 (0, 0)))
  unfold maxLen at hs ht
  clear hF
  by_cases h1 : 256 < s.size
  · clear h
    go_enter Tryd.func7, Tryd.ntmps7
    go_wp2_with (first | (go_at_call 9; (with_reducible refine (A.out).mono ?_); rintro e w1 ⟨rfl, hb⟩; have B := Aside0.mk (below_step B0.out hb); clear hb))
    go_ret
    exact ⟨rfl, B.out⟩
  · have h2 : 256 < t.size := by omega
    clear h
    go_enter Tryd.func7, Tryd.ntmps7
    go_wp2_with (first | (go_at_call 9; (with_reducible refine (A.out).mono ?_); rintro e w1 ⟨rfl, hb⟩; have B := Aside0.mk (below_step B0.out hb); clear hb))
    go_ret
    exact ⟨rfl, B.out⟩
set_option maxHeartbeats 4000000 in
theorem sets_err (w : World) (a p q : Nat → Int) (s t : ByteArray) (x y : Int) (e1 e2 : Int) (hF : FieldsAt w) (h1 : ¬ 256 < s.size) (h2 : ¬ 256 < t.size) (S1 : SetAt a s x p e1) (S2 : SetAt a t y q e2) (he : (e1 != 0) = true ∨ ((e1 != 0) = false ∧ (e2 != 0) = true)) :
    Calls Tryd.prog 7 #[.agg (wcells a), .string s, .string t, .int .i64 x, .int .i64 y] w fun e w' => e = .returned (.bool true) ∧ Below w.heap.size w w' := by
  have A := Aside0.mk (alive_call _ (hF.then (below_alloc (Below.refl _ _) (.cells (wcells a) 23 (0, 0)))))
  have B0 := Aside0.mk (below_alloc (Below.refl w.heap.size w) (.cells (wcells a) 23 (0, 0)))
  have F0 := Aside0.mk (hF.then (below_alloc (Below.refl _ _) (.cells (wcells a) 23 (0, 0))))
  have W0 := Aside0.mk (show WordAt (w.alloc (.cells (wcells a) 23 (0, 0))) w.heap.size a from blk_new _ _)
  have T1 := Aside0.mk S1
  have T2 := Aside0.mk S2
  have BX := Aside0.mk (fun (w : World) (a : Nat → Int) => box_store w #[.int .i64 0, .int .i64 0, .int .i64 0, .int .i64 0, .int .i64 0, .int .i64 0, .int .i64 0, .int .i64 0, .int .i64 0, .int .i64 0, .int .i64 0, .int .i64 0] a)
  clear hF S1 S2
  have h1' : ¬ (256 : Int) < s.size := by omega
  have h2' : ¬ (256 : Int) < t.size := by omega
  rcases he with he | ⟨he, he'⟩
  all_goals
    go_enter Tryd.func7, Tryd.ntmps7
    go_wp2_with (first
      | (go_at_call 9; (with_reducible refine (A.out).mono ?_); rintro e w1 ⟨rfl, hb⟩; have C1 := Aside0.mk (hb); clear hb)
      | (refine wpList_load_row rfl 23 (.tmp 5) rfl w.heap.size rfl _ _ _ _ (W0.out.then C1.out) Tryd.underlying23 rfl infoW ?_)
      | (go_at_call 18; (with_reducible refine (T1.out _ (F0.out.then C1.out)).mono ?_); rintro e w2 ⟨rfl, hb⟩; have C2 := Aside0.mk (below_step C1.out hb); have Y2 := True.intro; clear hb)
      | (refine wpList_store_row rfl 23 (.tmp 11) (.tmp 34) rfl w2.heap.size (wcells p) rfl rfl _ _ (blk_new _ _) infoW rfl (by kernel_rfl) ?_; have X4 := BX.out w2 p; generalize (w2.alloc (.cells #[.int .i64 0, .int .i64 0, .int .i64 0, .int .i64 0, .int .i64 0, .int .i64 0, .int .i64 0, .int .i64 0, .int .i64 0, .int .i64 0, .int .i64 0, .int .i64 0] 23 (0, 0))).setRow w2.heap.size (wcells p) = w3 at X4 ⊢; have W3 := Aside0.mk X4.1; have C3 := Aside0.mk (below_step C2.out X4.2); clear X4)
      | (refine wpList_load_row rfl 23 (.tmp 5) rfl w.heap.size rfl _ _ _ _ (W0.out.then C3.out) Tryd.underlying23 rfl infoW ?_)
      | (go_at_call 18; (with_reducible refine (T2.out _ (F0.out.then C3.out)).mono ?_); rintro e w4 ⟨rfl, hb⟩; have C4 := Aside0.mk (below_step C3.out hb); clear hb)
      | (refine wpList_store_row rfl 23 (.tmp 13) (.tmp 41) rfl w4.heap.size (wcells q) rfl rfl _ _ (blk_new _ _) infoW rfl (by kernel_rfl) ?_; have X4 := BX.out w4 q; generalize (w4.alloc (.cells #[.int .i64 0, .int .i64 0, .int .i64 0, .int .i64 0, .int .i64 0, .int .i64 0, .int .i64 0, .int .i64 0, .int .i64 0, .int .i64 0, .int .i64 0, .int .i64 0] 23 (0, 0))).setRow w4.heap.size (wcells q) = w5 at X4 ⊢; have W5 := Aside0.mk X4.1; have C5 := Aside0.mk (below_step C4.out X4.2); clear X4))
    go_ret
    exact ⟨rfl, below_step B0.out C5.out⟩
set_option maxHeartbeats 4000000 in
theorem sets_ok (w : World) (a p q r u : Nat → Int) (s t : ByteArray) (x y : Int) (hF : FieldsAt w) (h1 : ¬ 256 < s.size) (h2 : ¬ 256 < t.size) (S1 : SetAt a s x p 0) (S2 : SetAt a t y q 0) (S3 : SetAt p t y r 0) (S4 : SetAt q s x u 0)
    (hc : (s = t ∧ r = q ∧ u = p) ∨ (s ≠ t ∧ r = u ∧ GetAt r s x ∧ GetAt r t y)) :
    Calls Tryd.prog 7 #[.agg (wcells a), .string s, .string t, .int .i64 x, .int .i64 y] w fun e w' => e = .returned (.bool true) ∧ Below w.heap.size w w' := by
  have A := Aside0.mk (alive_call _ (hF.then (below_alloc (Below.refl _ _) (.cells (wcells a) 23 (0, 0)))))
  have B0 := Aside0.mk (below_alloc (Below.refl w.heap.size w) (.cells (wcells a) 23 (0, 0)))
  have F0 := Aside0.mk (hF.then (below_alloc (Below.refl _ _) (.cells (wcells a) 23 (0, 0))))
  have W0 := Aside0.mk (show WordAt (w.alloc (.cells (wcells a) 23 (0, 0))) w.heap.size a from blk_new _ _)
  have heq : ∀ (w : World) (y : Nat → Int), (binOp .eql 23 (.agg (wcells y)) (.agg (wcells y))).run Tryd.prog w = .ok (.bool true) w := fun w y => by rw [eq_word_run, eqW_refl]
  have BX := Aside0.mk (fun (w : World) (a : Nat → Int) => box_store w #[.int .i64 0, .int .i64 0, .int .i64 0, .int .i64 0, .int .i64 0, .int .i64 0, .int .i64 0, .int .i64 0, .int .i64 0, .int .i64 0, .int .i64 0, .int .i64 0] a)
  have T1 := Aside0.mk S1
  have T2 := Aside0.mk S2
  have T3 := Aside0.mk S3
  have T4 := Aside0.mk S4
  clear hF S1 S2 S3 S4
  have h1' : ¬ (256 : Int) < s.size := by omega
  have h2' : ¬ (256 : Int) < t.size := by omega
  rcases hc with ⟨rfl, hr, hu⟩ | ⟨hst, hr, G1, G2⟩
  · have E1 : ∀ (w : World), (binOp .eql 23 (.agg (wcells r)) (.agg (wcells q))).run Tryd.prog w = .ok (.bool true) w := fun w => by rw [hr]; exact heq w q
    have E2 : ∀ (w : World), (binOp .eql 23 (.agg (wcells u)) (.agg (wcells p))).run Tryd.prog w = .ok (.bool true) w := fun w => by rw [hu]; exact heq w p
    unfold wcells at E2
    clear hr hu heq
    go_enter Tryd.func7, Tryd.ntmps7
    go_wp2_with (first
      | (go_at_call 9; (with_reducible refine (A.out).mono ?_); rintro e w1 ⟨rfl, hb⟩; have C1 := Aside0.mk (hb); clear hb)
      | (refine wpList_load_row rfl 23 (.tmp 5) rfl w.heap.size rfl _ _ _ _ (W0.out.then C1.out) Tryd.underlying23 rfl infoW ?_)
      | (go_at_call 18; (with_reducible refine (T1.out _ (F0.out.then C1.out)).mono ?_); rintro e w2 ⟨rfl, hb⟩; have C2 := Aside0.mk (below_step C1.out hb); clear hb)
      | (refine wpList_store_row rfl 23 (.tmp 11) (.tmp 34) rfl w2.heap.size (wcells p) rfl rfl _ _ (blk_new _ _) infoW rfl (by kernel_rfl) ?_; have X4 := BX.out w2 p; generalize (w2.alloc (.cells #[.int .i64 0, .int .i64 0, .int .i64 0, .int .i64 0, .int .i64 0, .int .i64 0, .int .i64 0, .int .i64 0, .int .i64 0, .int .i64 0, .int .i64 0, .int .i64 0] 23 (0, 0))).setRow w2.heap.size (wcells p) = w3 at X4 ⊢; have W3 := Aside0.mk X4.1; have C3 := Aside0.mk (below_step C2.out X4.2); clear X4)
      | (refine wpList_load_row rfl 23 (.tmp 5) rfl w.heap.size rfl _ _ _ _ (W0.out.then C3.out) Tryd.underlying23 rfl infoW ?_)
      | (go_at_call 18; (with_reducible refine (T2.out _ (F0.out.then C3.out)).mono ?_); rintro e w4 ⟨rfl, hb⟩; have W4 := Aside0.mk (W3.out.then hb); have C4 := Aside0.mk (below_step C3.out hb); clear hb)
      | (refine wpList_store_row rfl 23 (.tmp 13) (.tmp 41) rfl w4.heap.size (wcells q) rfl rfl _ _ (blk_new _ _) infoW rfl (by kernel_rfl) ?_; have X4 := BX.out w4 q; generalize (w4.alloc (.cells #[.int .i64 0, .int .i64 0, .int .i64 0, .int .i64 0, .int .i64 0, .int .i64 0, .int .i64 0, .int .i64 0, .int .i64 0, .int .i64 0, .int .i64 0, .int .i64 0] 23 (0, 0))).setRow w4.heap.size (wcells q) = w5 at X4 ⊢; have W5 := Aside0.mk X4.1; have V5 := Aside0.mk (W4.out.then X4.2); have C5 := Aside0.mk (below_step C4.out X4.2); clear X4)
      | (refine wpList_load_row rfl 23 (.tmp 11) rfl w2.heap.size rfl _ _ _ _ V5.out Tryd.underlying23 rfl infoW ?_)
      | (go_at_call 18; (with_reducible refine (T3.out _ (F0.out.then C5.out)).mono ?_); rintro e w6 ⟨rfl, hb⟩; have V6 := Aside0.mk (V5.out.then hb); have W6 := Aside0.mk (W5.out.then hb); have C6 := Aside0.mk (below_step C5.out hb); clear hb)
      | (refine wpList_store_row rfl 23 (.tmp 15) (.tmp 54) rfl w6.heap.size (wcells r) rfl rfl _ _ (blk_new _ _) infoW rfl (by kernel_rfl) ?_; have X4 := BX.out w6 r; generalize (w6.alloc (.cells #[.int .i64 0, .int .i64 0, .int .i64 0, .int .i64 0, .int .i64 0, .int .i64 0, .int .i64 0, .int .i64 0, .int .i64 0, .int .i64 0, .int .i64 0, .int .i64 0] 23 (0, 0))).setRow w6.heap.size (wcells r) = w7 at X4 ⊢; have R7 := Aside0.mk X4.1; have V7 := Aside0.mk (V6.out.then X4.2); have W7 := Aside0.mk (W6.out.then X4.2); have C7 := Aside0.mk (below_step C6.out X4.2); clear X4)
      | (refine wpList_load_row rfl 23 (.tmp 13) rfl w4.heap.size rfl _ _ _ _ W7.out Tryd.underlying23 rfl infoW ?_)
      | (go_at_call 18; (with_reducible refine (T4.out _ (F0.out.then C7.out)).mono ?_); rintro e w8 ⟨rfl, hb⟩; have V8 := Aside0.mk (V7.out.then hb); have W8 := Aside0.mk (W7.out.then hb); have R8 := Aside0.mk (R7.out.then hb); have C8 := Aside0.mk (below_step C7.out hb); clear hb)
      | (refine wpList_store_row rfl 23 (.tmp 17) (.tmp 61) rfl w8.heap.size (wcells u) rfl rfl _ _ (blk_new _ _) infoW rfl (by kernel_rfl) ?_; have X4 := BX.out w8 u; generalize (w8.alloc (.cells #[.int .i64 0, .int .i64 0, .int .i64 0, .int .i64 0, .int .i64 0, .int .i64 0, .int .i64 0, .int .i64 0, .int .i64 0, .int .i64 0, .int .i64 0, .int .i64 0] 23 (0, 0))).setRow w8.heap.size (wcells u) = w9 at X4 ⊢; have U9 := Aside0.mk X4.1; have R9 := Aside0.mk (R8.out.then X4.2); have V9 := Aside0.mk (V8.out.then X4.2); have W9 := Aside0.mk (W8.out.then X4.2); have C9 := Aside0.mk (below_step C8.out X4.2); clear X4)
      | (refine wpList_load_row rfl 23 (.tmp 15) rfl w6.heap.size rfl _ _ _ _ R9.out Tryd.underlying23 rfl infoW ?_)
      | (refine wpList_load_row rfl 23 (.tmp 13) rfl w4.heap.size rfl _ _ _ _ W9.out Tryd.underlying23 rfl infoW ?_; obtain ⟨z0, z1, z2, z3, z4, z5, z6, z7, z8, z9, z10, z11⟩ := U9.out.all; obtain ⟨y0, y1, y2, y3, y4, y5, y6, y7, y8, y9, y10, y11⟩ := V9.out.all))
    go_ret
    exact ⟨rfl, below_step B0.out C9.out⟩
  · have E1 : ∀ (w : World), (binOp .eql 23 (.agg (wcells r)) (.agg (wcells u))).run Tryd.prog w = .ok (.bool true) w := fun w => by rw [hr]; exact heq w u
    clear heq
    simp only [GetAt, wcells] at G1 G2
    have G1 := Aside0.mk G1
    have G2 := Aside0.mk G2
    have hst' := str_beq hst
    clear hr hst
    go_enter Tryd.func7, Tryd.ntmps7
    go_wp2_with (first
      | (go_at_call 9; (with_reducible refine (A.out).mono ?_); rintro e w1 ⟨rfl, hb⟩; have C1 := Aside0.mk (hb); clear hb)
      | (refine wpList_load_row rfl 23 (.tmp 5) rfl w.heap.size rfl _ _ _ _ (W0.out.then C1.out) Tryd.underlying23 rfl infoW ?_)
      | (go_at_call 18; (with_reducible refine (T1.out _ (F0.out.then C1.out)).mono ?_); rintro e w2 ⟨rfl, hb⟩; have C2 := Aside0.mk (below_step C1.out hb); clear hb)
      | (refine wpList_store_row rfl 23 (.tmp 11) (.tmp 34) rfl w2.heap.size (wcells p) rfl rfl _ _ (blk_new _ _) infoW rfl (by kernel_rfl) ?_; have X4 := BX.out w2 p; generalize (w2.alloc (.cells #[.int .i64 0, .int .i64 0, .int .i64 0, .int .i64 0, .int .i64 0, .int .i64 0, .int .i64 0, .int .i64 0, .int .i64 0, .int .i64 0, .int .i64 0, .int .i64 0] 23 (0, 0))).setRow w2.heap.size (wcells p) = w3 at X4 ⊢; have W3 := Aside0.mk X4.1; have C3 := Aside0.mk (below_step C2.out X4.2); clear X4)
      | (refine wpList_load_row rfl 23 (.tmp 5) rfl w.heap.size rfl _ _ _ _ (W0.out.then C3.out) Tryd.underlying23 rfl infoW ?_)
      | (go_at_call 18; (with_reducible refine (T2.out _ (F0.out.then C3.out)).mono ?_); rintro e w4 ⟨rfl, hb⟩; have W4 := Aside0.mk (W3.out.then hb); have C4 := Aside0.mk (below_step C3.out hb); clear hb)
      | (refine wpList_store_row rfl 23 (.tmp 13) (.tmp 41) rfl w4.heap.size (wcells q) rfl rfl _ _ (blk_new _ _) infoW rfl (by kernel_rfl) ?_; have X4 := BX.out w4 q; generalize (w4.alloc (.cells #[.int .i64 0, .int .i64 0, .int .i64 0, .int .i64 0, .int .i64 0, .int .i64 0, .int .i64 0, .int .i64 0, .int .i64 0, .int .i64 0, .int .i64 0, .int .i64 0] 23 (0, 0))).setRow w4.heap.size (wcells q) = w5 at X4 ⊢; have W5 := Aside0.mk X4.1; have V5 := Aside0.mk (W4.out.then X4.2); have C5 := Aside0.mk (below_step C4.out X4.2); clear X4)
      | (refine wpList_load_row rfl 23 (.tmp 11) rfl w2.heap.size rfl _ _ _ _ V5.out Tryd.underlying23 rfl infoW ?_)
      | (go_at_call 18; (with_reducible refine (T3.out _ (F0.out.then C5.out)).mono ?_); rintro e w6 ⟨rfl, hb⟩; have V6 := Aside0.mk (V5.out.then hb); have W6 := Aside0.mk (W5.out.then hb); have C6 := Aside0.mk (below_step C5.out hb); clear hb)
      | (refine wpList_store_row rfl 23 (.tmp 15) (.tmp 54) rfl w6.heap.size (wcells r) rfl rfl _ _ (blk_new _ _) infoW rfl (by kernel_rfl) ?_; have X4 := BX.out w6 r; generalize (w6.alloc (.cells #[.int .i64 0, .int .i64 0, .int .i64 0, .int .i64 0, .int .i64 0, .int .i64 0, .int .i64 0, .int .i64 0, .int .i64 0, .int .i64 0, .int .i64 0, .int .i64 0] 23 (0, 0))).setRow w6.heap.size (wcells r) = w7 at X4 ⊢; have R7 := Aside0.mk X4.1; have V7 := Aside0.mk (V6.out.then X4.2); have W7 := Aside0.mk (W6.out.then X4.2); have C7 := Aside0.mk (below_step C6.out X4.2); clear X4)
      | (refine wpList_load_row rfl 23 (.tmp 13) rfl w4.heap.size rfl _ _ _ _ W7.out Tryd.underlying23 rfl infoW ?_)
      | (go_at_call 18; (with_reducible refine (T4.out _ (F0.out.then C7.out)).mono ?_); rintro e w8 ⟨rfl, hb⟩; have V8 := Aside0.mk (V7.out.then hb); have W8 := Aside0.mk (W7.out.then hb); have R8 := Aside0.mk (R7.out.then hb); have C8 := Aside0.mk (below_step C7.out hb); clear hb)
      | (refine wpList_store_row rfl 23 (.tmp 17) (.tmp 61) rfl w8.heap.size (wcells u) rfl rfl _ _ (blk_new _ _) infoW rfl (by kernel_rfl) ?_; have X4 := BX.out w8 u; generalize (w8.alloc (.cells #[.int .i64 0, .int .i64 0, .int .i64 0, .int .i64 0, .int .i64 0, .int .i64 0, .int .i64 0, .int .i64 0, .int .i64 0, .int .i64 0, .int .i64 0, .int .i64 0] 23 (0, 0))).setRow w8.heap.size (wcells u) = w9 at X4 ⊢; have U9 := Aside0.mk X4.1; have R9 := Aside0.mk (R8.out.then X4.2); have C9 := Aside0.mk (below_step C8.out X4.2); clear X4)
      | (refine wpList_load_row rfl 23 (.tmp 15) rfl w6.heap.size rfl _ _ _ _ R9.out Tryd.underlying23 rfl infoW ?_)
      | (refine wpList_load_row rfl 23 (.tmp 17) rfl w8.heap.size rfl _ _ _ _ U9.out Tryd.underlying23 rfl infoW ?_; obtain ⟨z0, z1, z2, z3, z4, z5, z6, z7, z8, z9, z10, z11⟩ := R9.out.all)
      | (go_at_call 20; (with_reducible refine (G1.out _ (F0.out.then C9.out)).mono ?_); rintro e w10 ⟨rfl, hb⟩; clear z0 z1 z2 z3 z4 z5 z6 z7 z8 z9 z10 z11; obtain ⟨y0, y1, y2, y3, y4, y5, y6, y7, y8, y9, y10, y11⟩ := (R9.out.then hb).all; have C10 := Aside0.mk (below_step C9.out hb); clear hb)
      | (go_at_call 20; (with_reducible refine (G2.out _ (F0.out.then C10.out)).mono ?_); rintro e w11 ⟨rfl, hb⟩; have C11 := Aside0.mk (below_step C10.out hb); clear hb))
    go_ret
    exact ⟨rfl, below_step B0.out C11.out⟩
theorem updF_same (a : Nat → Int) (k : Nat) (x y : Int) : updF (updF a k x) k y = updF a k y := by
  funext j; unfold updF; by_cases h : j = k
  · rw [if_pos h, if_pos h]
  · rw [if_neg h, if_neg h, if_neg h]
theorem updF_swap (a : Nat → Int) (i k : Nat) (x y : Int) (h : i ≠ k) : updF (updF a i x) k y = updF (updF a k y) i x := by
  funext j; unfold updF
  by_cases h1 : j = k
  · rw [if_pos h1, if_neg (by omega), if_pos h1]
  · rw [if_neg h1]
    by_cases h2 : j = i
    · rw [if_pos h2, if_pos h2]
    · rw [if_neg h2, if_neg h2, if_neg h1]
theorem updF_at (a : Nat → Int) (k : Nat) (x : Int) : updF a k x k = x := by unfold updF; rw [if_pos rfl]
theorem updF_ne (a : Nat → Int) (k j : Nat) (x : Int) (h : j ≠ k) : updF a k x j = a j := by unfold updF; rw [if_neg h]
theorem setAt_any (a : Nat → Int) (s : ByteArray) (x : Int) : SetAt a s x (setW a s x) (setE s x) := fun W h => set_call W a s x h
theorem sets_walk (w : World) (a : Nat → Int) (s t : ByteArray) (x y : Int) (hF : FieldsAt w) (hs : s.size ≤ maxLen) (ht : t.size ≤ maxLen) :
    Calls Tryd.prog 7 #[.agg (wcells a), .string s, .string t, .int .i64 x, .int .i64 y] w fun e w' => e = .returned (.bool true) ∧ Below w.heap.size w w' := by
  by_cases hl : 256 < s.size ∨ 256 < t.size
  · exact sets_long w a s t x y hF hl hs ht
  · have h1 : ¬ 256 < s.size := fun q => hl (.inl q)
    have h2 : ¬ 256 < t.size := fun q => hl (.inr q)
    by_cases e1 : setE s x = 0
    · by_cases e2 : setE t y = 0
      · obtain ⟨i, hi, hii, hni, hfi⟩ := setE_zero e1
        obtain ⟨k, hk, hkk, hnk, hfk⟩ := setE_zero e2
        have SS : ∀ a, SetAt a s x (updF a i x) 0 := fun a W h => set_ok W a s x i hi hii hfi h
        have ST : ∀ a, SetAt a t y (updF a k y) 0 := fun a W h => set_ok W a t y k hk hkk hfk h
        refine sets_ok w a (updF a i x) (updF a k y) (updF (updF a i x) k y) (updF (updF a k y) i x) s t x y hF h1 h2 (SS a) (ST a) (ST _) (SS _) ?_
        by_cases hst : s = t
        · subst hst
          obtain rfl : i = k := by rw [hii] at hkk; omega
          exact .inl ⟨rfl, updF_same _ _ _ _, updF_same _ _ _ _⟩
        · have hik : i ≠ k := fun q => hst (by rw [← hni, ← hnk, q])
          refine .inr ⟨hst, updF_swap _ _ _ _ _ hik, fun W h => ?_, fun W h => ?_⟩
          · have := get_yes W (updF (updF a i x) k y) s i hi hii h
            rw [updF_ne _ _ _ _ hik, updF_at] at this
            exact this
          · have := get_yes W (updF (updF a i x) k y) t k hk hkk h
            rw [updF_at] at this
            exact this
      · exact sets_err w a _ _ s t x y _ _ hF h1 h2 (setAt_any a s x) (setAt_any a t y) (.inr ⟨by rw [e1]; rfl, by rw [bne_iff_ne]; exact e2⟩)
    · exact sets_err w a _ _ s t x y _ _ hF h1 h2 (setAt_any a s x) (setAt_any a t y) (.inl (by rw [bne_iff_ne]; exact e1))
end Go.Proofs.YtpjgklpppiongaaDoor.UwWalk
