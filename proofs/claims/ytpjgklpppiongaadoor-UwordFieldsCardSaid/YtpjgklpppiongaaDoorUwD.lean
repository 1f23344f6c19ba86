/- The words' functions of layer 14, walked: the document's Pack, Word, Unpack. -/
import Derived.Test.YtpjgklpppiongaaDoorUwC
import Derived.StillTailTactics
namespace Go.Proofs.YtpjgklpppiongaaDoor.UwWalk
open Go.RowKit Go.Proofs.YtpjgklpppiongaaDoor.Aid Go.Proofs.YtpjgklpppiongaaDoorW.PrintWords Go.Proofs.YtpjgklpppiongaaDoorW.PrintLast Go.Proofs.YtpjgklpppiongaaDoorW.PrintMore
set_option linter.unusedVariables false
set_option linter.unusedSimpArgs false

theorem horn_step (m : Nat → Nat) (h : ∀ j, j < 12 → m j < 2 ^ fb j) (k q : Nat) (hk : k < 12) (hq : 11 - k = q) (x : Int) (hx : x = (m q : Int)) :
    IntKind.u64.wrap (IntKind.u64.wrap (((hornN m k : Nat) : Int) * IntKind.u64.wrap (wideF q)) + IntKind.u64.wrap x) = ((hornN m (k + 1) : Nat) : Int) := by
  subst hx
  have h1 := horn_lt m h (k + 1) (by omega)
  have e1 : hornN m (k + 1) = hornN m k * 2 ^ fb (11 - k) + m (11 - k) := rfl
  rw [hq] at e1
  have hmb : 2 ^ fb q ≤ 2 ^ 11 := Nat.pow_le_pow_right (by decide) (fb_le q)
  have hm := h q (by omega)
  have w1 : IntKind.u64.wrap (wideF q) = ((2 ^ fb q : Nat) : Int) := by
    show ((2 ^ fb q : Nat) : Int) % 18446744073709551616 = _
    omega
  have w2 : IntKind.u64.wrap ((m q : Nat) : Int) = ((m q : Nat) : Int) := by
    show ((m q : Nat) : Int) % 18446744073709551616 = _
    omega
  rw [w1, w2, show ((hornN m k : Nat) : Int) * ((2 ^ fb q : Nat) : Int) = ((hornN m k * 2 ^ fb q : Nat) : Int) from by simp]
  generalize hornN m k * 2 ^ fb q = z at *
  rw [e1] at h1 ⊢
  show ((z : Int) % 18446744073709551616 + (m q : Int)) % 18446744073709551616 = _
  omega
theorem rpack_call (w : World) (a : Nat → Int) (hg : goodV a = true) : Calls Tryd.prog 13 #[.agg (wcells a)] w fun e w' => e = .returned (.int .u64 (packN (fun i => (a i).toNat) 12)) ∧ Below w.heap.size w w' := by
  have HG := Aside0.mk (fun i hi => good_nat hg i hi)
  have P := Aside0.mk parts_call
  clear hg
  go_enter Tryd.func13, Tryd.ntmps13
  go_wp2_with (first | (refine wpList_load_row rfl 23 (.tmp 1) rfl w.heap.size rfl _ _ _ _ (blk_new _ _) Tryd.underlying23 rfl infoW ?_) | (go_at_call 16; (with_reducible refine (P.out _ _).mono ?_); rintro e w1 ⟨b, rfl, hp, hb, hq⟩))
  have HB := Aside0.mk (below_step (below_alloc (Below.refl w.heap.size w) _) hb)
  have HP := Aside0.mk hp
  clear hp hb hq P
  go_loopw [3, 5] (fun x i wr => ∃ k : Nat, k ≤ 12 ∧ i = .int .i64 (11 - (k : Int)) ∧ x = .int .u64 (hornN (fun i => (a i).toNat) k) ∧ IntsAt wr b a ∧ Below w.heap.size w wr) (fun _ i _ => ((intOf i) + 1).toNat)
  case atStart => exact ⟨0, by omega, rfl, rfl, HP.out, HB.out⟩
  case round =>
    obtain ⟨k, hk, rfl, rfl, hp, hb⟩ := hrel
    have B := Aside0.mk hb
    have P := Aside0.mk hp
    clear HP HB
    by_cases hk12 : k = 12
    · subst hk12
      clear hb hp
      rw [horn_pack]
      go_wp2
      go_ret
      exact ⟨rfl, B.out⟩
    · obtain ⟨q, hq, hq12⟩ : ∃ q : Nat, (11 - (k : Int)) = (q : Int) ∧ q < 12 := ⟨11 - k, by omega, by omega⟩
      rw [hq]
      have c1 := hp.cell q hq12
      have hq0 : (0 : Int) ≤ (q : Int) := by omega
      have hq1 : (q : Int) < 12 := by omega
      have WC := Aside0.mk (fun w1 => (wide_call w1).mono (R' := fun e w' => ∃ b, e = .returned (.slice (some ⟨b, 0, none⟩) 12 12) ∧ w'.cell? ⟨b, q, none⟩ = some (.int .i64 (wideF q)) ∧ Below w1.heap.size w1 w') (fun e w' ⟨b, h1, h2, h3, h4⟩ => ⟨b, h1, h2.cell q hq12, h3⟩))
      clear hb hp
      have hcells : Aside0 (∀ W, Below wr.heap.size wr W → W.cell? ⟨b, q, none⟩ = some (.int .i64 (a q))) := ⟨fun W hW => (P.out.then hW).cell q hq12⟩
      have hS := hcells.out wr (Below.refl _ _)
      go_wp2
      go_region_with (first
        | (go_at_call 17; (with_reducible refine (WC.out _).mono ?_); rintro e w2 ⟨b2, rfl, c2, hb2⟩; have hb3 : Below wr.heap.size wr w2 := ((Below.refl wr.heap.size wr).drew).trans hb2; have c3 := hcells.out _ hb3; clear hb2))
      all_goals
        go_wp2
        go_roundw
        case rel => exact ⟨k + 1, by omega, congrArg (Value.int .i64) (by omega), congrArg (Value.int .u64) (horn_step (fun i => (a i).toNat) (fun j hj => (HG.out j hj).2) k q (by omega) (by omega) _ (HG.out q hq12).1), P.out.then hb3, below_step B.out hb3⟩
        case measure => simp [intOf]
theorem word_call (w : World) (b c : Nat) (a : Nat → Int) (h : ∀ i, i < 12 → w.cell? ⟨b, i, none⟩ = some (.int .i64 (a i))) : Calls Tryd.prog 28 #[.slice (some ⟨b, 0, none⟩) 12 c] w fun e w' => e = .returned (.agg (wcells a)) ∧ Below w.heap.size w w' := by
  have hb : b < w.heap.size := by
    have h0 := h 0 (by decide)
    unfold World.cell? at h0
    by_cases q : b < w.heap.size
    · exact q
    · rw [Array.getElem?_eq_none (by show w.heap.size ≤ b; omega)] at h0; simp at h0
  have B0 := below_alloc (Below.refl w.heap.size w) (.cells (wcells (fun _ => 0)) 23 (0, 0))
  have HN := blk_new w (.cells (wcells (fun _ => 0)) 23 (0, 0))
  generalize hW : w.alloc (.cells (wcells (fun _ => 0)) 23 (0, 0)) = W0 at B0 HN
  have hc : ∀ i, i < 12 → W0.cell? ⟨b, i, none⟩ = some (.int .i64 (a i)) := fun i hi => (B0.cell (p := ⟨b, i, none⟩) hb).trans (h i hi)
  have h0 := hc 0 (by decide)
  have h1 := hc 1 (by decide)
  have h2 := hc 2 (by decide)
  have h3 := hc 3 (by decide)
  have h4 := hc 4 (by decide)
  have h5 := hc 5 (by decide)
  have h6 := hc 6 (by decide)
  have h7 := hc 7 (by decide)
  have h8 := hc 8 (by decide)
  have h9 := hc 9 (by decide)
  have h10 := hc 10 (by decide)
  have h11 := hc 11 (by decide)
  have B := Aside0.mk B0
  have N := Aside0.mk HN
  unfold wcells at hW
  have HW := Aside0.mk hW
  clear h hc B0 HN hW
  go_enter Tryd.func28, Tryd.ntmps28
  go_wp2
  rw [HW.out]
  go_still_tail 36, (by kernel_rfl)
  change wpList _ _ _ _ _ W0.drew
  obtain ⟨w2, hw2⟩ : ∃ w2, w2 = W0.drew := ⟨_, rfl⟩
  rw [← hw2]
  have N2 : Aside0 (w2.heap[w.heap.size]? = some (.cells (wcells (fun _ => 0)) 23 (0, 0))) := ⟨by rw [hw2]; exact N.out⟩
  have B2 : Aside0 (Below w.heap.size w w2) := ⟨by rw [hw2]; exact B.out.drew⟩
  clear hw2 h0 h1 h2 h3 h4 h5 h6 h7 h8 h9 h10 h11
  go_wp2_with (first
    | (refine wpList_store_row rfl 23 (.tmp 2) (.tmp 39) rfl w.heap.size (wcells a) rfl rfl _ _ N2.out infoW rfl (by kernel_rfl) ?_))
  refine bodyPost_ret (results_cell_row rfl _ _ w.heap.size 23 (wcells a) (0, 0) _ rfl (setRow_heap _ w.heap.size _ _ 23 _ N2.out) Tryd.underlying23 rfl infoW) rfl ⟨rfl, below_setRow B2.out (Nat.le_refl _) _⟩
theorem infoI : (Tryd.prog.info? 3).map (fun i => (i.zero, i.size, i.bytes)) = some (some (.int .i64 0), 1, 8) := by kernel_rfl
/-- The lowest k parts of a number, as a list. -/
def unpL (x k : Nat) : List Int := (List.range k).map fun i => ((unpN x i : Nat) : Int)
theorem unpL_length (x k : Nat) : (unpL x k).length = k := by unfold unpL; rw [List.length_map, List.length_range]
theorem unpL_next (x k : Nat) : unpL x (k + 1) = unpL x k ++ [((unpN x k : Nat) : Int)] := by
  unfold unpL; rw [List.range_succ, List.map_append]; rfl
theorem own_val {W : World} {base e s n : Nat} {v : Value} {xs : List Value} (h : W.ownsRow base e s v n xs) : ∃ A c, v = .slice A n c := by
  rcases h.2 with ⟨rfl, rfl⟩ | ⟨b, c, cur, rfl, _⟩
  · exact ⟨none, 0, rfl⟩
  · exact ⟨_, c, rfl⟩
theorem own_at {W : World} {base n : Nat} {v : Value} {xs : List Int} (h : W.ownsRow base 3 1 v n (nums .i64 xs)) (hn : 0 < n) : ∃ b c, v = .slice (some ⟨b, 0, none⟩) n c ∧ ∀ i, i < n → W.cell? ⟨b, i, none⟩ = some (.int .i64 (xs.getD i 0)) := by
  rcases h.2 with ⟨rfl, h0⟩ | ⟨b, c, cur, hv, _⟩
  · omega
  · subst hv
    have hx := h.1
    refine ⟨b, c, rfl, fun i hi => ?_⟩
    have hl : i < xs.length := by unfold nums at hx; rw [List.length_map] at hx; omega
    rw [h.cellAt i (by omega)]
    unfold nums
    rw [List.getElem?_map, List.getElem?_eq_getElem hl, List.getD_eq_getElem?_getD, List.getElem?_eq_getElem hl]
    rfl
theorem wide_wrap (k : Nat) : IntKind.u64.wrap (wideF k) = ((2 ^ fb k : Nat) : Int) := by
  have hmb : 2 ^ fb k ≤ 2 ^ 11 := Nat.pow_le_pow_right (by decide) (fb_le k)
  unfold wideF
  generalize 2 ^ fb k = z at *
  show ((z : Nat) : Int) % 18446744073709551616 = _
  omega
theorem runp_num (x k : Nat) : wrap64 (Int.tmod ((x : Int) / 2 ^ offN k) (IntKind.u64.wrap (wideF k))) = ((unpN x k : Nat) : Int) := by
  have hmb : 2 ^ fb k ≤ 2 ^ 11 := Nat.pow_le_pow_right (by decide) (fb_le k)
  have hp : 0 < 2 ^ fb k := Nat.pow_pos (by decide)
  rw [wide_wrap, show ((x : Int) / 2 ^ offN k) = ((x / 2 ^ offN k : Nat) : Int) from by simp, tmod_nat]
  have : x / 2 ^ offN k % 2 ^ fb k < 2 ^ fb k := Nat.mod_lt _ hp
  unfold unpN
  generalize x / 2 ^ offN k % 2 ^ fb k = z at *
  exact wrap64_in (by omega) (by omega)
theorem u64_small (n : Nat) (h : n < 18446744073709551616) : IntKind.u64.wrap (n : Int) = (n : Int) := by
  show (n : Int) % 18446744073709551616 = _
  omega
theorem runp_div (x k : Nat) : Int.tdiv ((x : Int) / 2 ^ offN k) (IntKind.u64.wrap (wideF k)) = ((x / 2 ^ offN (k + 1) : Nat) : Int) := by
  rw [wide_wrap, show ((x : Int) / 2 ^ offN k) = ((x / 2 ^ offN k : Nat) : Int) from by simp, tdiv_nat, show offN (k + 1) = offN k + fb k from rfl, Nat.pow_add, ← Nat.div_div_eq_div_mul]
theorem runpack_call (w : World) (x : Nat) (hx : x < 18446744073709551616) :
    Calls Tryd.prog 15 #[.int .u64 x] w fun e w' => e = .returned (.agg (wcells (unpTo x 12))) ∧ Below w.heap.size w w' := by
  have WC := Aside0.mk wide_call
  go_enter Tryd.func15, Tryd.ntmps15
  go_wp2_with (first | (go_at_call 17; (with_reducible refine (WC.out _).mono ?_); rintro e w1 ⟨b, rfl, hw, hb, hbb⟩))
  have HB := Aside0.mk (below_step (below_alloc (Below.refl w.heap.size w) _) hb)
  have HW := Aside0.mk hw
  have HR := Aside0.mk ((show WordAt (w.alloc (.cells (wcells (fun _ => 0)) 23 (0, 0))) w.heap.size (fun _ => 0) from blk_new _ _).then hb)
  clear hw hb WC
  go_loopw [0, 3, 8] (fun y o i wr => ∃ k : Nat, k ≤ 12 ∧ i = .int .i64 k ∧ y = .int .u64 ((x / 2 ^ offN k : Nat) : Int) ∧ Below w1.heap.size w1 wr ∧ wr.ownsRow w1.heap.size 3 1 o k (nums .i64 (unpL x k))) (fun _ _ i _ => 12 - (intOf i).toNat)
  case atStart => exact ⟨0, by omega, rfl, by rw [show offN 0 = 0 from rfl, Nat.pow_zero, Nat.div_one], Below.refl _ _, World.ownsRow_nil _ _ _ _⟩
  case round =>
    obtain ⟨k, hk, rfl, rfl, hb, ho⟩ := hrel
    have B := Aside0.mk hb
    have O := Aside0.mk ho
    obtain ⟨A1, c1, rfl⟩ := own_val ho
    by_cases hk12 : k = 12
    · subst hk12
      obtain ⟨b2, c2, hv, hcs⟩ := own_at ho (by decide)
      simp only [Value.slice.injEq, true_and] at hv
      obtain ⟨rfl, rfl⟩ := hv
      have WD := Aside0.mk (word_call wr b2 c1 (unpTo x 12) (fun i hi => by
        rw [hcs i hi]
        unfold unpL unpTo
        rw [if_pos hi, List.getD_eq_getElem?_getD, List.getElem?_map, List.getElem?_range hi]
        rfl))
      have R := Aside0.mk (HR.out.then hb)
      clear ho hb hcs
      go_wp2_with (first
        | (go_at_call 28; (with_reducible refine (WD.out).mono ?_); rintro e w3 ⟨rfl, hb3⟩; have B3 := Aside0.mk hb3; clear hb3)
        | (refine wpList_store_row rfl 23 (.tmp 2) (.tmp 26) rfl w.heap.size _ rfl rfl _ _ (R.out.then B3.out) infoW rfl (by kernel_rfl) ?_))
      refine bodyPost_ret (results_cell_row rfl _ _ w.heap.size 23 (wcells (unpTo x 12)) (0, 0) _ rfl (setRow_heap _ w.heap.size _ _ 23 _ (R.out.then B3.out)) Tryd.underlying23 rfl infoW) rfl ⟨rfl, below_setRow (below_step (below_step HB.out B.out) B3.out) (Nat.le_refl _) _⟩
    · have c3 := (HW.out.then hb).cell k (by omega)
      have hk' : k < 12 := by omega
      have hk'' : (k : Int) < 12 := by omega
      have hk0 : (0 : Int) ≤ k := by omega
      have hwz : ¬ IntKind.u64.wrap (wideF k) = 0 := by
        rw [wide_wrap]
        have hp : 0 < 2 ^ fb k := Nat.pow_pos (by decide)
        generalize 2 ^ fb k = z at *
        omega
      have hsz := B.out.size
      clear ho hb
      go_wp2_with (first
        | (at_builtin; go_loud (refine print_append_num (w0 := w1) w1.heap.size rfl (.tmp 12) (.tmp 18) 34 3 .i64 8 rfl Tryd.underlying34 infoI (by decide) (.slice A1 k c1) (unpL x k) (wrap64 (((x : Int) / 2 ^ offN k).tmod (IntKind.u64.wrap (wideF k)))) rfl (by simp [Act.eval]) (by rw [unpL_length]; exact O.out) B.out B.out.size (by rw [unpL_length]; omega) ?_); intro v1 w2 ho2 hb2 hg2 hat2; have O2 := Aside0.mk ho2; have B2 := Aside0.mk hb2; clear ho2 hb2 hg2 hat2))
      rw [runp_div]
      have o2 := O2.out
      rw [runp_num, ← unpL_next, unpL_length] at o2
      go_roundw
      case rel => exact ⟨k + 1, by omega, rfl, congrArg (Value.int .u64) (u64_small _ (Nat.lt_of_le_of_lt (Nat.div_le_self _ _) hx)), B2.out, o2⟩
      case measure => simp [intOf]; omega
end Go.Proofs.YtpjgklpppiongaaDoor.UwWalk
