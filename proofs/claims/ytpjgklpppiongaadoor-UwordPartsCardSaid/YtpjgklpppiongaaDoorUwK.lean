/- The words' laws of layer 14: Parts. -/
import Derived.Test.YtpjgklpppiongaaDoorUwJ
namespace Go.Proofs.YtpjgklpppiongaaDoor.UwWalk
open Go.RowKit Go.Proofs.YtpjgklpppiongaaDoor.Aid Go.Proofs.YtpjgklpppiongaaDoorW.PrintWords Go.Proofs.YtpjgklpppiongaaDoorW.PrintLast Go.Proofs.YtpjgklpppiongaaDoorW.PrintMore
set_option linter.unusedVariables false
set_option linter.unusedSimpArgs false
abbrev PackAt (a : Nat → Int) (n e : Int) : Prop :=
  ∀ W, FieldsAt W → Calls Tryd.prog 11 #[.agg (wcells a)] W fun e' w' => e' = .returned (.tuple #[.int .u64 n, .int .i64 e]) ∧ Below W.heap.size W w'
/-- The two numbers, held against the two words. -/
def Held (v a : Nat → Int) (n1 n2 e1 e2 : Int) : Prop := (e1 == 0) = false ∨ ((e1 == 0) = true ∧ (e2 == 0) = false) ∨ ((e1 == 0) = true ∧ (e2 == 0) = true ∧ (n1 == n2) = eqW v a)
set_option maxHeartbeats 4000000 in
theorem parts_err (w : World) (v a u : Nat → Int) (s : ByteArray) (x n1 n2 e1 e2 e3 : Int) (hF : FieldsAt w) (P1 : PackAt v n1 e1) (P2 : PackAt a n2 e2) (S1 : SetAt a s x u e3) (hh : Held v a n1 n2 e1 e2) (he : (e3 != 0) = true) (hu : u = a) :
    Calls Tryd.prog 6 #[.agg (wcells v), .agg (wcells a), .string s, .int .i64 x] w fun e w' => e = .returned (.bool true) ∧ Below w.heap.size w w' := by
  subst hu
  have F00 := (hF.then (below_alloc (Below.refl _ _) (.cells (wcells v) 23 (0, 0)))).then (below_alloc (Below.refl _ _) (.cells (wcells u) 23 (0, 0)))
  have A := Aside0.mk (alive_call _ F00)
  have B0 := Aside0.mk (below_alloc (below_alloc (Below.refl w.heap.size w) (.cells (wcells v) 23 (0, 0))) (.cells (wcells u) 23 (0, 0)))
  have F0 := Aside0.mk F00
  have V0 := Aside0.mk (show WordAt ((w.alloc (.cells (wcells v) 23 (0, 0))).alloc (.cells (wcells u) 23 (0, 0))) w.heap.size v from (show WordAt (w.alloc (.cells (wcells v) 23 (0, 0))) w.heap.size v from blk_new _ _).then (below_alloc (Below.refl _ _) _))
  have W0 := Aside0.mk (show WordAt ((w.alloc (.cells (wcells v) 23 (0, 0))).alloc (.cells (wcells u) 23 (0, 0))) (w.heap.size + 1) u from blk_new2 _ _ _)
  have E2 : ∀ (w : World), (binOp .eql 23 (.agg (wcells v)) (.agg (wcells u))).run Tryd.prog w = .ok (.bool (eqW v u)) w := fun w => eq_word_run w v u
  unfold wcells at E2
  have E1 : ∀ (w : World), (binOp .eql 23 (.agg (wcells u)) (.agg (wcells u))).run Tryd.prog w = .ok (.bool true) w := fun w => by rw [eq_word_run, eqW_refl]
  have BX := Aside0.mk (fun (w : World) (a : Nat → Int) => box_store w #[.int .i64 0, .int .i64 0, .int .i64 0, .int .i64 0, .int .i64 0, .int .i64 0, .int .i64 0, .int .i64 0, .int .i64 0, .int .i64 0, .int .i64 0, .int .i64 0] a)
  have T1 := Aside0.mk P1
  have T2 := Aside0.mk P2
  have T3 := Aside0.mk S1
  unfold Held at hh
  generalize eqW v u = bq at *
  clear hF S1 P1 P2 F00
  rcases hh with hh | ⟨hh, hh2⟩ | ⟨hh, hh2, hh3⟩
  all_goals
    go_enter Tryd.func6, Tryd.ntmps6
    go_wp2_with (first
      | (go_at_call 9; (with_reducible refine (A.out).mono ?_); rintro e w1 ⟨rfl, hb⟩; have C1 := Aside0.mk (hb); clear hb)
      | (refine wpList_load_row rfl 23 (.tmp 4) rfl w.heap.size rfl _ _ _ _ (V0.out.then C1.out) Tryd.underlying23 rfl infoW ?_)
      | (go_at_call 11; (with_reducible refine (T1.out _ (F0.out.then C1.out)).mono ?_); rintro e w2 ⟨rfl, hb⟩; have C2 := Aside0.mk (below_step C1.out hb); clear hb)
      | (refine wpList_load_row rfl 23 (.tmp 5) rfl (w.heap.size + 1) rfl _ _ _ _ (W0.out.then C2.out) Tryd.underlying23 rfl infoW ?_)
      | (go_at_call 11; (with_reducible refine (T2.out _ (F0.out.then C2.out)).mono ?_); rintro e w3 ⟨rfl, hb⟩; have C3 := Aside0.mk (below_step C2.out hb); obtain ⟨z0, z1, z2, z3, z4, z5, z6, z7, z8, z9, z10, z11⟩ := (V0.out.then C3.out).all; obtain ⟨y0, y1, y2, y3, y4, y5, y6, y7, y8, y9, y10, y11⟩ := (W0.out.then C3.out).all; clear hb)
      | (refine wpList_load_row rfl 23 (.tmp 5) rfl (w.heap.size + 1) rfl _ _ _ _ (W0.out.then C3.out) Tryd.underlying23 rfl infoW ?_)
      | (go_at_call 18; (with_reducible refine (T3.out _ (F0.out.then C3.out)).mono ?_); rintro e w4 ⟨rfl, hb⟩; have C4 := Aside0.mk (below_step C3.out hb); clear hb z0 z1 z2 z3 z4 z5 z6 z7 z8 z9 z10 z11 y0 y1 y2 y3 y4 y5 y6 y7 y8 y9 y10 y11)
      | (refine wpList_store_row rfl 23 (.tmp 13) (.tmp 49) rfl w4.heap.size (wcells u) rfl rfl _ _ (blk_new _ _) infoW rfl (by kernel_rfl) ?_; have X4 := BX.out w4 u; generalize (w4.alloc (.cells #[.int .i64 0, .int .i64 0, .int .i64 0, .int .i64 0, .int .i64 0, .int .i64 0, .int .i64 0, .int .i64 0, .int .i64 0, .int .i64 0, .int .i64 0, .int .i64 0] 23 (0, 0))).setRow w4.heap.size (wcells u) = w5 at X4 ⊢; have U5 := Aside0.mk X4.1; have C5 := Aside0.mk (below_step C4.out X4.2); clear X4)
      | (refine wpList_load_row rfl 23 (.tmp 13) rfl w4.heap.size rfl _ _ _ _ U5.out Tryd.underlying23 rfl infoW ?_)
      | (refine wpList_load_row rfl 23 (.tmp 5) rfl (w.heap.size + 1) rfl _ _ _ _ (W0.out.then C5.out) Tryd.underlying23 rfl infoW ?_))
    go_ret
    exact ⟨rfl, below_step B0.out C5.out⟩
set_option maxHeartbeats 8000000 in
theorem parts_ok (w : World) (v a u : Nat → Int) (s : ByteArray) (x n1 n2 e1 e2 : Int) (hF : FieldsAt w) (P1 : PackAt v n1 e1) (P2 : PackAt a n2 e2) (S1 : SetAt a s x u 0) (hh : Held v a n1 n2 e1 e2) (hg : ∀ k, k < 12 → nm k ≠ s → u k = a k) (G0 : GetAt u s x) (GA : ∀ (b : Nat → Int) k, k < 12 → GetAt b (nm k) (b k)) :
    Calls Tryd.prog 6 #[.agg (wcells v), .agg (wcells a), .string s, .int .i64 x] w fun e w' => e = .returned (.bool true) ∧ Below w.heap.size w w' := by
  have F00 := (hF.then (below_alloc (Below.refl _ _) (.cells (wcells v) 23 (0, 0)))).then (below_alloc (Below.refl _ _) (.cells (wcells a) 23 (0, 0)))
  have A := Aside0.mk (alive_call _ F00)
  have B0 := Aside0.mk (below_alloc (below_alloc (Below.refl w.heap.size w) (.cells (wcells v) 23 (0, 0))) (.cells (wcells a) 23 (0, 0)))
  have F0 := Aside0.mk F00
  have V0 := Aside0.mk (show WordAt ((w.alloc (.cells (wcells v) 23 (0, 0))).alloc (.cells (wcells a) 23 (0, 0))) w.heap.size v from (show WordAt (w.alloc (.cells (wcells v) 23 (0, 0))) w.heap.size v from blk_new _ _).then (below_alloc (Below.refl _ _) _))
  have W0 := Aside0.mk (show WordAt ((w.alloc (.cells (wcells v) 23 (0, 0))).alloc (.cells (wcells a) 23 (0, 0))) (w.heap.size + 1) a from blk_new2 _ _ _)
  have E2 : ∀ (w : World), (binOp .eql 23 (.agg (wcells v)) (.agg (wcells a))).run Tryd.prog w = .ok (.bool (eqW v a)) w := fun w => eq_word_run w v a
  unfold wcells at E2
  have BX := Aside0.mk (fun (w : World) (a : Nat → Int) => box_store w #[.int .i64 0, .int .i64 0, .int .i64 0, .int .i64 0, .int .i64 0, .int .i64 0, .int .i64 0, .int .i64 0, .int .i64 0, .int .i64 0, .int .i64 0, .int .i64 0] a)
  have T1 := Aside0.mk P1
  have T2 := Aside0.mk P2
  have T3 := Aside0.mk S1
  have G := Aside0.mk G0
  have GU := Aside0.mk GA
  have HG := Aside0.mk hg
  have NC := Aside0.mk names_call
  unfold Held at hh
  generalize eqW v a = bq at *
  clear hF S1 P1 P2 F00 G0 GA hg
  rcases hh with hh | ⟨hh, hh2⟩ | ⟨hh, hh2, hh3⟩
  all_goals
    go_enter Tryd.func6, Tryd.ntmps6
    go_wp2_with (first
      | (go_at_call 9; (with_reducible refine (A.out).mono ?_); rintro e w1 ⟨rfl, hb⟩; have C1 := Aside0.mk (hb); clear hb)
      | (refine wpList_load_row rfl 23 (.tmp 4) rfl w.heap.size rfl _ _ _ _ (V0.out.then C1.out) Tryd.underlying23 rfl infoW ?_)
      | (go_at_call 11; (with_reducible refine (T1.out _ (F0.out.then C1.out)).mono ?_); rintro e w2 ⟨rfl, hb⟩; have C2 := Aside0.mk (below_step C1.out hb); clear hb)
      | (refine wpList_load_row rfl 23 (.tmp 5) rfl (w.heap.size + 1) rfl _ _ _ _ (W0.out.then C2.out) Tryd.underlying23 rfl infoW ?_)
      | (go_at_call 11; (with_reducible refine (T2.out _ (F0.out.then C2.out)).mono ?_); rintro e w3 ⟨rfl, hb⟩; have C3 := Aside0.mk (below_step C2.out hb); obtain ⟨z0, z1, z2, z3, z4, z5, z6, z7, z8, z9, z10, z11⟩ := (V0.out.then C3.out).all; obtain ⟨y0, y1, y2, y3, y4, y5, y6, y7, y8, y9, y10, y11⟩ := (W0.out.then C3.out).all; clear hb)
      | (refine wpList_load_row rfl 23 (.tmp 5) rfl (w.heap.size + 1) rfl _ _ _ _ (W0.out.then C3.out) Tryd.underlying23 rfl infoW ?_)
      | (go_at_call 18; (with_reducible refine (T3.out _ (F0.out.then C3.out)).mono ?_); rintro e w4 ⟨rfl, hb⟩; have C4 := Aside0.mk (below_step C3.out hb); clear hb z0 z1 z2 z3 z4 z5 z6 z7 z8 z9 z10 z11 y0 y1 y2 y3 y4 y5 y6 y7 y8 y9 y10 y11)
      | (refine wpList_store_row rfl 23 (.tmp 13) (.tmp 49) rfl w4.heap.size (wcells u) rfl rfl _ _ (blk_new _ _) infoW rfl (by kernel_rfl) ?_; have X4 := BX.out w4 u; generalize (w4.alloc (.cells #[.int .i64 0, .int .i64 0, .int .i64 0, .int .i64 0, .int .i64 0, .int .i64 0, .int .i64 0, .int .i64 0, .int .i64 0, .int .i64 0, .int .i64 0, .int .i64 0] 23 (0, 0))).setRow w4.heap.size (wcells u) = w5 at X4 ⊢; have U5 := Aside0.mk X4.1; have C5 := Aside0.mk (below_step C4.out X4.2); clear X4)
      | (go_at_call 19; (with_reducible refine (NC.out _).mono ?_); rintro e w6 ⟨q, rfl, hp, hb, hq⟩; have N6 := Aside0.mk hp; have U6 := Aside0.mk (U5.out.then hb); have C6 := Aside0.mk (below_step C5.out hb); clear hp hb hq))
    clear hh E2
    have W6 := Aside0.mk (W0.out.then C6.out)
    have F6 := Aside0.mk (F0.out.then C6.out)
    generalize w4.heap.size = g4 at *
    go_loopw [58] (fun i wr => ∃ k : Nat, k ≤ 12 ∧ i = .int .i64 k ∧ Below w6.heap.size w6 wr) (fun i _ => 12 - (intOf i).toNat)
    case atStart => exact ⟨0, Nat.zero_le _, rfl, Below.refl _ _⟩
    case round =>
      obtain ⟨k, hk, rfl, hb⟩ := hrel
      have B := Aside0.mk hb
      by_cases hk12 : k = 12
      · subst hk12
        clear hb
        go_wp2_with (first
          | (refine wpList_load_row rfl 23 (.tmp 13) rfl g4 rfl _ _ _ _ (U6.out.then B.out) Tryd.underlying23 rfl infoW ?_)
          | (go_at_call 20; (with_reducible refine (G.out _ (F6.out.then B.out)).mono ?_); rintro e w7 ⟨rfl, hb⟩; have C7 := Aside0.mk (below_step B.out hb); clear hb))
        go_ret
        exact ⟨rfl, below_step (below_step B0.out C6.out) C7.out⟩
      · have hk' : k < 12 := by omega
        have hk'' : (k : Int) < 12 := by omega
        have c0 := (N6.out.then hb).cell k hk'
        clear hb
        by_cases he : nm k = s
        · subst he
          have he2 : (!((nm k).toList == (nm k).toList)) = false := by simp
          go_wp2
          first | go_quiet (fail) | skip
          go_wp2
          go_roundw
          case rel => exact ⟨k + 1, by omega, rfl, by first | exact B.out | exact pw_below_drewN B.out _ | exact B.out.drew⟩
          case measure => simp [intOf]; omega
        · have GX := fun W h => GU.out u k hk' W h
          have GY := fun W h => GU.out a k hk' W h
          rw [HG.out k hk' he] at GX
          have he' := str_beq he
          simp only [wcells] at GX GY
          generalize nm k = y1 at *
          generalize a k = zk at *
          have GX := Aside0.mk GX
          have GY := Aside0.mk GY
          have FD := Aside0.mk (show FieldsAt wr.drew from F6.out.then B.out.drew)
          have UK : Aside0 (∀ W, Below wr.heap.size wr W → WordAt W g4 u) := ⟨fun W h => U6.out.then (below_step B.out h)⟩
          have AK : Aside0 (∀ W, Below wr.heap.size wr W → WordAt W (w.heap.size + 1) a) := ⟨fun W h => W6.out.then (below_step B.out h)⟩
          have FK : Aside0 (∀ W, Below wr.heap.size wr W → FieldsAt W) := ⟨fun W h => F6.out.then (below_step B.out h)⟩
          obtain ⟨z0, z1, z2, z3, z4, z5, z6, z7, z8, z9, z10, z11⟩ := (UK.out wr (Below.refl _ _)).all
          obtain ⟨y0, y1, y2, y3, y4, y5, y6, y7, y8, y9, y10, y11⟩ := (AK.out wr (Below.refl _ _)).all
          go_wp2
          go_region_with (first
            | (go_at_call 20; (with_reducible refine (GX.out _ FD.out).mono ?_); rintro e w8 ⟨rfl, hb⟩; have hb8 : Below wr.heap.size wr w8 := ((Below.refl wr.heap.size wr).drew).trans hb; obtain ⟨v0, v1, v2, v3, v4, v5, v6, v7, v8, v9, v10, v11⟩ := (AK.out w8 hb8).all; have F8 := Aside0.mk (FK.out w8 hb8); clear hb)
            | (go_at_call 20; (with_reducible refine (GY.out _ F8.out).mono ?_); rintro e w9 ⟨rfl, hb⟩; have hb9 := below_step hb8 hb; clear hb))
          all_goals go_wp2
          all_goals exact ⟨⟨k + 1, by omega, rfl, below_step B.out hb9⟩, by simp [intOf]; omega⟩
end Go.Proofs.YtpjgklpppiongaaDoor.UwWalk
