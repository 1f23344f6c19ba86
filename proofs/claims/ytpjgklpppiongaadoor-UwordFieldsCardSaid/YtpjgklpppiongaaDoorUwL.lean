/- The words' laws of layer 14: Fields. -/
import Derived.Test.YtpjgklpppiongaaDoorUwJ
namespace Go.Proofs.YtpjgklpppiongaaDoor.UwWalk
open Go.RowKit Go.Proofs.YtpjgklpppiongaaDoor.Aid Go.Proofs.YtpjgklpppiongaaDoorW.PrintWords Go.Proofs.YtpjgklpppiongaaDoorW.PrintLast Go.Proofs.YtpjgklpppiongaaDoorW.PrintMore
set_option linter.unusedVariables false
set_option linter.unusedSimpArgs false
theorem infoFld : (Tryd.prog.info? 48).map (fun i => (i.zero, i.size, i.bytes)) = some (some (.agg #[.string ⟨#[]⟩, .int .i64 0]), 2, 24) := by kernel_rfl
/-- The fields, one after the other. -/
def FldsAt (W : World) (b : Nat) : Prop := ∀ k, k < 12 → W.cell? ⟨b, k * 2, none⟩ = some (.string (nm k)) ∧ W.cell? ⟨b, k * 2 + 1, none⟩ = some (.int .i64 (fb k))
theorem FldsAt.then {W W' : World} {b : Nat} (h : FldsAt W b) (hb : b < W.heap.size) (k : Below W.heap.size W W') : FldsAt W' b :=
  fun i hi => ⟨(k.cell (p := ⟨b, i * 2, none⟩) hb).trans (h i hi).1, (k.cell (p := ⟨b, i * 2 + 1, none⟩) hb).trans (h i hi).2⟩
theorem fieldsL_one : ∀ u ∈ fieldsL, u.oneCell' = true := by
  intro u hu
  simp only [fieldsL, List.mem_cons, List.not_mem_nil, or_false] at hu
  rcases hu with rfl | rfl | rfl | rfl | rfl | rfl | rfl | rfl | rfl | rfl | rfl | rfl | rfl | rfl | rfl | rfl | rfl | rfl | rfl | rfl | rfl | rfl | rfl | rfl <;> rfl
theorem fieldsL_fst (k : Nat) (h : k < 12) : fieldsL[k * 2]? = some (.string (nm k)) := by
  match k, h with
  | 0, _ => rfl
  | 1, _ => rfl
  | 2, _ => rfl
  | 3, _ => rfl
  | 4, _ => rfl
  | 5, _ => rfl
  | 6, _ => rfl
  | 7, _ => rfl
  | 8, _ => rfl
  | 9, _ => rfl
  | 10, _ => rfl
  | 11, _ => rfl
theorem fieldsL_snd (k : Nat) (h : k < 12) : fieldsL[k * 2 + 1]? = some (.int .i64 (fb k)) := by
  match k, h with
  | 0, _ => rfl
  | 1, _ => rfl
  | 2, _ => rfl
  | 3, _ => rfl
  | 4, _ => rfl
  | 5, _ => rfl
  | 6, _ => rfl
  | 7, _ => rfl
  | 8, _ => rfl
  | 9, _ => rfl
  | 10, _ => rfl
  | 11, _ => rfl
theorem fields_call (w : World) (hF : FieldsAt w) : Calls Tryd.prog 21 #[] w fun e w' => ∃ b c, e = .returned (.slice (some ⟨b, 0, none⟩) 12 c) ∧ FldsAt w' b ∧ b < w'.heap.size ∧ Below w.heap.size w w' ∧ 12 ≤ c := by
  have F := Aside0.mk hF
  clear hF
  have NW : Aside0 (∀ j u, fieldsL[j]? = some u → w.cell? ((⟨0, 0, none⟩ : Addr).add j) = some u) := ⟨fun j u hu => by
    have := F.out.2 j u hu
    rw [show ((⟨0, 0, none⟩ : Addr).add j) = ⟨0, j, none⟩ from by unfold Addr.add; by_cases hj : j = 0 <;> simp [hj]]
    exact this⟩
  obtain ⟨i0, hi, hzz⟩ := Option.map_eq_some_iff.1 infoFld
  simp only [Prod.mk.injEq] at hzz
  obtain ⟨hz0, hz1, hz2⟩ := hzz
  have HI := Aside0.mk (And.intro hi (And.intro hz0 (And.intro hz1 hz2)))
  clear hi hz0 hz1 hz2
  go_enter Tryd.func21, Tryd.ntmps21
  go_wp2_with (first
    | (at_builtin; refine wpList_append_own_at (w := w) rfl (.const (.slice none 0 0)) (.tmp 1) 45 rfl w.heap.size 48 i0 (.agg #[.string ⟨#[]⟩, .int .i64 0]) 2 24 Tryd.underlying45 HI.out.1 HI.out.2.1 HI.out.2.2.1 HI.out.2.2.2 rfl (by decide) (.slice none 0 0) 0 [] rfl (World.ownsRow_nil _ _ _ _) ⟨0, 0, none⟩ 12 12 fieldsL rfl (by decide) NW.out fieldsL_one (by decide) (by decide) (Nat.le_refl _) ?_; intro v1 w2 ho hg hn hat; have O := Aside0.mk ho; have B := Aside0.mk hg; clear ho hg hn hat))
  obtain ⟨h1, h2⟩ := O.out
  rcases h2 with ⟨rfl, h0⟩ | ⟨b, c, cur, rfl, hb, hh, h3, h4, h5, h6⟩
  · exact absurd h0 (by decide)
  go_ret
  refine ⟨b, c, rfl, fun k hk => ?_, (Array.getElem?_eq_some_iff.1 hh).1, ⟨B.out.os, B.out.tape, B.out.output, B.out.size, fun i hi => B.out.block i hi (by simp [Value.ownBlock])⟩, h3⟩
  have c0 := O.out.cellAt (k * 2) (by omega)
  have c1 := O.out.cellAt (k * 2 + 1) (by omega)
  rw [List.nil_append, fieldsL_fst k hk] at c0
  rw [List.nil_append, fieldsL_snd k hk] at c1
  exact ⟨c0, c1⟩
theorem fields_long (w : World) (a : Nat → Int) (s : ByteArray) (x : Int) (hF : FieldsAt w) (h : 256 < s.size) (hs : s.size ≤ maxLen) :
    Calls Tryd.prog 8 #[.agg (wcells a), .string s, .int .i64 x] w fun e w' => e = .returned (.bool true) ∧ Below w.heap.size w w' := by
  have A := Aside0.mk (alive_call _ (hF.then (below_alloc (Below.refl _ _) (.cells (wcells a) 23 (0, 0)))))
  have B0 := Aside0.mk (below_alloc (Below.refl w.heap.size w) (.cells (wcells a) 23 (0, 0)))
  unfold maxLen at hs
  clear hF
  go_enter Tryd.func8, Tryd.ntmps8
  go_wp2_with (first | (go_at_call 9; (with_reducible refine (A.out).mono ?_); rintro e w1 ⟨rfl, hb⟩; have B := Aside0.mk (below_step B0.out hb); clear hb))
  go_ret
  exact ⟨rfl, B.out⟩
set_option maxRecDepth 100000 in
set_option maxHeartbeats 64000000 in
theorem fields_ok (w : World) (a u : Nat → Int) (s : ByteArray) (x e1 i bI pI : Int) (hF : FieldsAt w) (h1 : ¬ 256 < s.size)
    (AT : ∀ W, Calls Tryd.prog 23 #[.string s] W fun e' w' => e' = .returned (.int .i64 i) ∧ Below W.heap.size W w')
    (BT : ∀ W, FieldsAt W → Calls Tryd.prog 25 #[.string s] W fun e' w' => e' = .returned (.int .i64 bI) ∧ Below W.heap.size W w')
    (GT : GetAt a s pI) (S1 : SetAt a s x u e1)
    (S2 : ∀ W, Calls Tryd.prog 24 #[.agg (wcells a), .string s, .int .i64 x] W fun e' w' => e' = .returned (.tuple #[.agg (wcells u), .int .i64 e1]) ∧ Below W.heap.size W w')
    (hc : (i = -1 ∧ bI = 0 ∧ pI = 0) ∨ ∃ k : Nat, k < 12 ∧ i = k ∧ bI = fb k ∧ pI = a k)
    (hfin : (e1 != 0) = true ∨ ((e1 != 0) = false ∧ GetAt u s x)) :
    Calls Tryd.prog 8 #[.agg (wcells a), .string s, .int .i64 x] w fun e w' => e = .returned (.bool true) ∧ Below w.heap.size w w' := by
  have A := Aside0.mk (alive_call _ (hF.then (below_alloc (Below.refl _ _) (.cells (wcells a) 23 (0, 0)))))
  have B0 := Aside0.mk (below_alloc (Below.refl w.heap.size w) (.cells (wcells a) 23 (0, 0)))
  have F0 := Aside0.mk (hF.then (below_alloc (Below.refl _ _) (.cells (wcells a) 23 (0, 0))))
  have W0 := Aside0.mk (show WordAt (w.alloc (.cells (wcells a) 23 (0, 0))) w.heap.size a from blk_new _ _)
  have BX := Aside0.mk (fun (w : World) (a : Nat → Int) => box_store w #[.int .i64 0, .int .i64 0, .int .i64 0, .int .i64 0, .int .i64 0, .int .i64 0, .int .i64 0, .int .i64 0, .int .i64 0, .int .i64 0, .int .i64 0, .int .i64 0] a)
  have FC := Aside0.mk fields_call
  have E2 : ∀ (w : World), (binOp .eql 23 (.agg (wcells u)) (.agg (wcells u))).run Tryd.prog w = .ok (.bool true) w := fun w => by rw [eq_word_run, eqW_refl]
  have AT := Aside0.mk AT
  have BT := Aside0.mk BT
  have T1 := Aside0.mk S1
  have T2 := Aside0.mk S2
  have GT' := GT
  simp only [GetAt, wcells] at GT'
  have GT' := Aside0.mk GT'
  have NC := Aside0.mk names_call
  have PU := fun w1 => parts_call w1 a
  unfold wcells at PU E2
  have PU := Aside0.mk PU
  have hfin' : (e1 != 0) = true ∨ ((e1 != 0) = false ∧ Aside0 (∀ W, FieldsAt W → Calls Tryd.prog 20 #[.agg #[.int .i64 (u 0), .int .i64 (u 1), .int .i64 (u 2), .int .i64 (u 3), .int .i64 (u 4), .int .i64 (u 5), .int .i64 (u 6), .int .i64 (u 7), .int .i64 (u 8), .int .i64 (u 9), .int .i64 (u 10), .int .i64 (u 11)], .string s] W fun e' w' => e' = .returned (.int .i64 x) ∧ Below W.heap.size W w')) := hfin.imp id (fun ⟨p, q⟩ => ⟨p, ⟨q⟩⟩)
  clear hF S1 S2 GT hfin
  have h1' : ¬ (256 : Int) < s.size := by omega
  rcases hfin' with he | ⟨he, HG⟩
  all_goals
    go_enter Tryd.func8, Tryd.ntmps8
    go_wp2_with (first
      | (go_at_call 9; (with_reducible refine (A.out).mono ?_); rintro e w1 ⟨rfl, hb⟩; have C1 := Aside0.mk (hb); clear hb)
      | (go_at_call 21; (with_reducible refine (FC.out _ (F0.out.then C1.out)).mono ?_); rintro e w2 ⟨bf, cf, rfl, hq, hl, hb, hc12⟩; have C2 := Aside0.mk (below_step C1.out hb); have Q2 := Aside0.mk (And.intro hq hl); clear hb hq hl))
    have F2 := Aside0.mk (F0.out.then C2.out)
    have W2 := Aside0.mk (W0.out.then C2.out)
    go_loopw [28] (fun j wr => ∃ k : Nat, k ≤ 12 ∧ j = .int .i64 k ∧ Below w2.heap.size w2 wr) (fun j _ => 12 - (intOf j).toNat)
    case atStart => exact ⟨0, Nat.zero_le _, rfl, Below.refl _ _⟩
    case round =>
      obtain ⟨k, hk, rfl, hb⟩ := hrel
      have B := Aside0.mk hb
      by_cases hk12 : k = 12
      · subst hk12
        have FK : Aside0 (∀ W, Below wr.heap.size wr W → FieldsAt W) := ⟨fun W h => F2.out.then (below_step B.out h)⟩
        have WK : Aside0 (∀ W, Below wr.heap.size wr W → WordAt W w.heap.size a) := ⟨fun W h => W2.out.then (below_step B.out h)⟩
        clear hb
        rcases hc with ⟨rfl, rfl, rfl⟩ | ⟨q, hq, rfl, rfl, rfl⟩
        · go_wp2_with (first
            | (go_at_call 23; (with_reducible refine (AT.out _).mono ?_); rintro e w3 ⟨rfl, hb⟩; have C3 := Aside0.mk hb; clear hb)
              | (refine wpList_load_row rfl 23 (.tmp 3) rfl w.heap.size rfl _ _ _ _ (WK.out w3 C3.out) Tryd.underlying23 rfl infoW ?_)
              | (go_at_call 18; (with_reducible refine (T1.out _ (FK.out _ C3.out)).mono ?_); rintro e w4 ⟨rfl, hb⟩; have C4 := Aside0.mk (below_step C3.out hb); clear hb)
              | (refine wpList_store_row rfl 23 (.tmp 13) (.tmp 68) rfl w4.heap.size (wcells u) rfl rfl _ _ (blk_new _ _) infoW rfl (by kernel_rfl) ?_; have X4 := BX.out w4 u; generalize (w4.alloc (.cells #[.int .i64 0, .int .i64 0, .int .i64 0, .int .i64 0, .int .i64 0, .int .i64 0, .int .i64 0, .int .i64 0, .int .i64 0, .int .i64 0, .int .i64 0, .int .i64 0] 23 (0, 0))).setRow w4.heap.size (wcells u) = w41 at X4 ⊢; have U4 := Aside0.mk X4.1; have C41 := Aside0.mk (below_step C4.out X4.2); clear X4)
              | (refine wpList_load_row rfl 23 (.tmp 3) rfl w.heap.size rfl _ _ _ _ (WK.out w41 C41.out) Tryd.underlying23 rfl infoW ?_)
              | (go_at_call 24; (with_reducible refine (T2.out _).mono ?_); rintro e w42 ⟨rfl, hb⟩; have U42 := Aside0.mk (U4.out.then hb); have C42 := Aside0.mk (below_step C41.out hb); clear hb)
              | (refine wpList_store_row rfl 23 (.tmp 15) (.tmp 75) rfl w42.heap.size (wcells u) rfl rfl _ _ (blk_new _ _) infoW rfl (by kernel_rfl) ?_; have X4 := BX.out w42 u; generalize (w42.alloc (.cells #[.int .i64 0, .int .i64 0, .int .i64 0, .int .i64 0, .int .i64 0, .int .i64 0, .int .i64 0, .int .i64 0, .int .i64 0, .int .i64 0, .int .i64 0, .int .i64 0] 23 (0, 0))).setRow w42.heap.size (wcells u) = w43 at X4 ⊢; have U43 := Aside0.mk (U42.out.then X4.2); have V43 := Aside0.mk X4.1; have C43 := Aside0.mk (below_step C42.out X4.2); clear X4)
              | (go_at_call 25; (with_reducible refine (BT.out _ (FK.out _ C43.out)).mono ?_); rintro e w44 ⟨rfl, hb⟩; have U44 := Aside0.mk (U43.out.then hb); have V44 := Aside0.mk (V43.out.then hb); have C44 := Aside0.mk (below_step C43.out hb); obtain ⟨ha0, ha1, ha2, ha3, ha4, ha5, ha6, ha7, ha8, ha9, ha10, ha11⟩ := (WK.out _ C44.out).all; clear hb)
              | (go_at_call 20; (with_reducible refine (GT'.out _ (FK.out _ C44.out)).mono ?_); rintro e w45 ⟨rfl, hb⟩; obtain ⟨hb_0, hb_1, hb_2, hb_3, hb_4, hb_5, hb_6, hb_7, hb_8, hb_9, hb_10, hb_11⟩ := (U44.out.then hb).all; obtain ⟨hd0, hd1, hd2, hd3, hd4, hd5, hd6, hd7, hd8, hd9, hd10, hd11⟩ := (V44.out.then hb).all; have C9 := Aside0.mk (below_step C44.out hb); clear hb ha0 ha1 ha2 ha3 ha4 ha5 ha6 ha7 ha8 ha9 ha10 ha11)
              | (go_at_call 20; (with_reducible refine (HG.out _ (FK.out _ C9.out)).mono ?_); rintro e w46 ⟨rfl, hb⟩; have CA := Aside0.mk (below_step C9.out hb); clear hb))
          all_goals (go_ret; exact ⟨rfl, below_step (below_step (below_step B0.out C2.out) B.out) (by first | exact C9.out | exact CA.out)⟩)
        · have hq'' : (q : Int) < 12 := by omega
          have hq0 : (0 : Int) ≤ q := by omega
          have PK := Aside0.mk (fun w1 => (PU.out w1).mono (R' := fun e w' => ∃ b, e = .returned (.slice (some ⟨b, 0, none⟩) 12 12) ∧ w'.cell? ⟨b, q, none⟩ = some (.int .i64 (a q)) ∧ b < w'.heap.size ∧ Below w1.heap.size w1 w') (fun e w' ⟨b, h1, h2, h3, h4⟩ => ⟨b, h1, h2.cell q hq, h2.lt, h3⟩))
          have BQ := Aside0.mk (fun w1 => (bits_call w1).mono (R' := fun e w' => ∃ b, e = .returned (.slice (some ⟨b, 0, none⟩) 12 12) ∧ w'.cell? ⟨b, q, none⟩ = some (.int .i64 (fb q)) ∧ b < w'.heap.size ∧ Below w1.heap.size w1 w') (fun e w' ⟨b, h1, h2, h3, h4⟩ => ⟨b, h1, h2.cell q hq, h2.lt, h3⟩))
          have HAQ := Aside0.mk (show True from trivial)
          generalize haq : a q = aq at *
          clear haq
          generalize ((fb q : Nat) : Int) = bq at *
          go_upto_region 17 with (first
            | (go_at_call 23; (with_reducible refine (AT.out _).mono ?_); rintro e w5 ⟨rfl, hb⟩; have C5 := Aside0.mk hb; clear hb))
          obtain ⟨z0, z1, z2, z3, z4, z5, z6, z7, z8, z9, z10, z11⟩ := (WK.out w5 C5.out).all
          go_cut [11, 12] (fun s11 s12 wx => s11 = .int .i64 bq ∧ s12 = .int .i64 aq ∧ Below wr.heap.size wr wx)
          case first =>
            go_region_with (first
              | (go_at_call 22; (with_reducible refine (BQ.out _).mono ?_); rintro e w6 ⟨q6, rfl, c6, l6, hb⟩; have hb6 : Below w5.heap.size w5 w6 := ((Below.refl w5.heap.size w5).drew).trans hb; obtain ⟨y0, y1, y2, y3, y4, y5, y6, y7, y8, y9, y10, y11⟩ := (WK.out w6 (below_step C5.out hb6)).all; have L6 := Aside0.mk (And.intro c6 l6); clear hb l6)
              | (go_at_call 16; (with_reducible refine (PK.out _).mono ?_); rintro e w3 ⟨q7, rfl, c7, l7, hb⟩; have c6' := (hb.cell (p := ⟨q6, q, none⟩) L6.out.2).trans L6.out.1; have hb7 := below_step hb6 hb; clear hb l7))
            all_goals go_wp2
            all_goals (go_meet; exact ⟨rfl, rfl, below_step C5.out hb7⟩)
          case rest =>
            generalize wc = w3 at *
            obtain ⟨rfl, rfl, hb3⟩ := hcut
            have C3 := Aside0.mk hb3
            clear hb3 z0 z1 z2 z3 z4 z5 z6 z7 z8 z9 z10 z11
            go_wp2_with (first
              | (refine wpList_load_row rfl 23 (.tmp 3) rfl w.heap.size rfl _ _ _ _ (WK.out w3 C3.out) Tryd.underlying23 rfl infoW ?_)
              | (go_at_call 18; (with_reducible refine (T1.out _ (FK.out _ C3.out)).mono ?_); rintro e w4 ⟨rfl, hb⟩; have C4 := Aside0.mk (below_step C3.out hb); clear hb)
              | (refine wpList_store_row rfl 23 (.tmp 13) (.tmp 68) rfl w4.heap.size (wcells u) rfl rfl _ _ (blk_new _ _) infoW rfl (by kernel_rfl) ?_; have X4 := BX.out w4 u; generalize (w4.alloc (.cells #[.int .i64 0, .int .i64 0, .int .i64 0, .int .i64 0, .int .i64 0, .int .i64 0, .int .i64 0, .int .i64 0, .int .i64 0, .int .i64 0, .int .i64 0, .int .i64 0] 23 (0, 0))).setRow w4.heap.size (wcells u) = w41 at X4 ⊢; have U4 := Aside0.mk X4.1; have C41 := Aside0.mk (below_step C4.out X4.2); clear X4)
              | (refine wpList_load_row rfl 23 (.tmp 3) rfl w.heap.size rfl _ _ _ _ (WK.out w41 C41.out) Tryd.underlying23 rfl infoW ?_)
              | (go_at_call 24; (with_reducible refine (T2.out _).mono ?_); rintro e w42 ⟨rfl, hb⟩; have U42 := Aside0.mk (U4.out.then hb); have C42 := Aside0.mk (below_step C41.out hb); clear hb)
              | (refine wpList_store_row rfl 23 (.tmp 15) (.tmp 75) rfl w42.heap.size (wcells u) rfl rfl _ _ (blk_new _ _) infoW rfl (by kernel_rfl) ?_; have X4 := BX.out w42 u; generalize (w42.alloc (.cells #[.int .i64 0, .int .i64 0, .int .i64 0, .int .i64 0, .int .i64 0, .int .i64 0, .int .i64 0, .int .i64 0, .int .i64 0, .int .i64 0, .int .i64 0, .int .i64 0] 23 (0, 0))).setRow w42.heap.size (wcells u) = w43 at X4 ⊢; have U43 := Aside0.mk (U42.out.then X4.2); have V43 := Aside0.mk X4.1; have C43 := Aside0.mk (below_step C42.out X4.2); clear X4)
              | (go_at_call 25; (with_reducible refine (BT.out _ (FK.out _ C43.out)).mono ?_); rintro e w44 ⟨rfl, hb⟩; have U44 := Aside0.mk (U43.out.then hb); have V44 := Aside0.mk (V43.out.then hb); have C44 := Aside0.mk (below_step C43.out hb); obtain ⟨ha0, ha1, ha2, ha3, ha4, ha5, ha6, ha7, ha8, ha9, ha10, ha11⟩ := (WK.out _ C44.out).all; clear hb)
              | (go_at_call 20; (with_reducible refine (GT'.out _ (FK.out _ C44.out)).mono ?_); rintro e w45 ⟨rfl, hb⟩; obtain ⟨hb_0, hb_1, hb_2, hb_3, hb_4, hb_5, hb_6, hb_7, hb_8, hb_9, hb_10, hb_11⟩ := (U44.out.then hb).all; obtain ⟨hd0, hd1, hd2, hd3, hd4, hd5, hd6, hd7, hd8, hd9, hd10, hd11⟩ := (V44.out.then hb).all; have C9 := Aside0.mk (below_step C44.out hb); clear hb ha0 ha1 ha2 ha3 ha4 ha5 ha6 ha7 ha8 ha9 ha10 ha11)
              | (go_at_call 20; (with_reducible refine (HG.out _ (FK.out _ C9.out)).mono ?_); rintro e w46 ⟨rfl, hb⟩; have CA := Aside0.mk (below_step C9.out hb); clear hb))
            go_ret
            exact ⟨rfl, below_step (below_step (below_step B0.out C2.out) B.out) (by first | exact CA.out | exact C9.out)⟩
      · have hk' : k < 12 := by omega
        have hk'' : (k : Int) < 12 := by omega
        obtain ⟨c0, c1⟩ := (Q2.out.1.then Q2.out.2 hb) k hk'
        clear hb he hc
        have NK := Aside0.mk (fun w1 => (NC.out w1).mono (R' := fun e w' => ∃ b, e = .returned (.slice (some ⟨b, 0, none⟩) 12 12) ∧ w'.cell? ⟨b, k, none⟩ = some (.string (nm k)) ∧ b < w'.heap.size ∧ Below w1.heap.size w1 w') (fun e w' ⟨b, h1, h2, h3, h4⟩ => ⟨b, h1, h2.cell k hk', h2.lt, h3⟩))
        have BK := Aside0.mk (fun w1 => (bits_call w1).mono (R' := fun e w' => ∃ b, e = .returned (.slice (some ⟨b, 0, none⟩) 12 12) ∧ w'.cell? ⟨b, k, none⟩ = some (.int .i64 (fb k)) ∧ b < w'.heap.size ∧ Below w1.heap.size w1 w') (fun e w' ⟨b, h1, h2, h3, h4⟩ => ⟨b, h1, h2.cell k hk', h2.lt, h3⟩))
        generalize nm k = y1 at *
        generalize ((fb k : Nat) : Int) = zk at *
        have hy : (y1.toList == y1.toList) = true := by simp
        have hy2 : (y1.toList != y1.toList) = false := by simp
        go_wp2
        generalize hWB : wr.alloc (.cells #[.string y1, .int .i64 zk] 48) = WB at *
        have BB := Aside0.mk (show Below wr.heap.size wr WB from hWB ▸ below_alloc (Below.refl _ _) _)
        have KB : Aside0 (∀ W, Below WB.heap.size WB W → W.cell? ⟨wr.heap.size, 0, none⟩ = some (.string y1) ∧ W.cell? ⟨wr.heap.size, 1, none⟩ = some (.int .i64 zk)) := ⟨fun W h => by
          have hl : wr.heap.size < WB.heap.size := by rw [← hWB]; simp
          have hb : WB.heap[wr.heap.size]? = some (.cells #[.string y1, .int .i64 zk] 48 (0, 0)) := by rw [← hWB]; exact blk_new _ _
          exact ⟨(h.cell (p := ⟨wr.heap.size, 0, none⟩) hl).trans (cell_of_row _ _ 0 _ _ _ hb), (h.cell (p := ⟨wr.heap.size, 1, none⟩) hl).trans (cell_of_row _ _ 1 _ _ _ hb)⟩⟩
        clear hWB
        obtain ⟨d0, d1⟩ := KB.out WB (Below.refl _ _)
        have BB2 := Aside0.mk (below_step B.out BB.out)
        generalize wr.heap.size = g at *
        go_region_with (first
          | (go_at_call 19; (with_reducible refine (NK.out _).mono ?_); rintro e w8 ⟨q8, rfl, c8, l8, hb⟩; have hb8 : Below WB.heap.size WB w8 := ((Below.refl WB.heap.size WB).drew).trans hb; obtain ⟨v0, v1⟩ := KB.out w8 hb8; clear hb l8)
          | (go_at_call 22; (with_reducible refine (BK.out _).mono ?_); rintro e w9 ⟨q9, rfl, c9, l9, hb⟩; have hb9 := below_step hb8 hb; obtain ⟨u0, u1⟩ := KB.out w9 hb9; clear hb l9))
        all_goals go_wp2
        all_goals exact ⟨⟨k + 1, by omega, rfl, below_step BB2.out hb9⟩, by simp [intOf]; omega⟩
end Go.Proofs.YtpjgklpppiongaaDoor.UwWalk
