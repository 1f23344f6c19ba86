/- The words' functions of layer 14, walked: Unpack; the document's Parts, Wide, Bits, Good, Pack. -/
import Derived.Test.YtpjgklpppiongaaDoorUwB
namespace Go.Proofs.YtpjgklpppiongaaDoor.UwWalk
open Go.RowKit Go.Proofs.YtpjgklpppiongaaDoor.Aid Go.Proofs.YtpjgklpppiongaaDoorW.PrintWords Go.Proofs.YtpjgklpppiongaaDoorW.PrintLast Go.Proofs.YtpjgklpppiongaaDoorW.PrintMore
set_option linter.unusedVariables false
set_option linter.unusedSimpArgs false

theorem blk_new2 (w : World) (o1 o2 : Obj) : ((w.alloc o1).alloc o2).heap[w.heap.size + 1]? = some o2 := by
  have h := blk_new (w.alloc o1) o2
  rwa [show (w.alloc o1).heap.size = w.heap.size + 1 from by simp] at h
/-- A number's part. -/
def unpN (x i : Nat) : Nat := x / 2 ^ offN i % 2 ^ fb i
theorem unp_step (x k : Nat) (hx : x < 18446744073709551616) :
    wrap64 (bits .and .u64 ((x : Int) / 2 ^ offN k) (IntKind.u64.wrap (IntKind.u64.wrap (2 ^ min (fb k) 64) - 1))) = ((unpN x k : Nat) : Int) := by
  have hb := fb_le k
  have hmb : 2 ^ fb k ≤ 2 ^ 11 := Nat.pow_le_pow_right (by decide) hb
  have hp : 0 < 2 ^ fb k := Nat.pow_pos (by decide)
  have e1 : IntKind.u64.wrap (IntKind.u64.wrap ((2 : Int) ^ min (fb k) 64) - 1) = ((2 ^ fb k - 1 : Nat) : Int) := by
    rw [Nat.min_eq_left (by omega), show ((2 : Int) ^ fb k) = ((2 ^ fb k : Nat) : Int) from by simp]
    show (((2 ^ fb k : Nat) : Int) % 18446744073709551616 - 1) % 18446744073709551616 = _
    omega
  have hq : x / 2 ^ offN k < 18446744073709551616 := Nat.lt_of_le_of_lt (Nat.div_le_self _ _) hx
  rw [show ((x : Int) / 2 ^ offN k) = ((x / 2 ^ offN k : Nat) : Int) from by simp, e1, u64_and_nat _ _ hq (by omega), Nat.and_two_pow_sub_one_eq_mod]
  have : x / 2 ^ offN k % 2 ^ fb k < 2 ^ fb k := Nat.mod_lt _ hp
  unfold unpN
  generalize x / 2 ^ offN k % 2 ^ fb k = z at *
  exact wrap64_in (by omega) (by omega)
theorem unp_div (x k : Nat) : ((x : Int) / 2 ^ offN k / 2 ^ min (fb k) 64) = ((x / 2 ^ offN (k + 1) : Nat) : Int) := by
  have hb := fb_le k
  rw [Nat.min_eq_left (by omega), show offN (k + 1) = offN k + fb k from rfl, Nat.pow_add, ← Nat.div_div_eq_div_mul]
  simp
/-- The word of noughts with its lowest k parts out of a number. -/
def unpTo (x k : Nat) : Nat → Int := fun i => if i < k then ((unpN x i : Nat) : Int) else 0
theorem unpTo_next (x k : Nat) : updF (unpTo x k) k ((unpN x k : Nat) : Int) = unpTo x (k + 1) := by
  funext j
  unfold updF unpTo
  by_cases h : j = k
  · subst h; rw [if_pos rfl, if_pos (Nat.lt_succ_self _)]
  · rw [if_neg h]
    by_cases h2 : j < k
    · rw [if_pos h2, if_pos (by omega)]
    · rw [if_neg h2, if_neg (by omega)]
theorem WordAt.set {W : World} {g : Nat} {a : Nat → Int} (h : WordAt W g a) (k : Nat) (hk : k < 12) (x : Int) : WordAt (W.setCell ⟨g, k, none⟩ (.int .i64 x)) g (updF a k x) := blk_put h k _ (wcells_set a k hk x)
theorem wordAt_zero (W : World) : WordAt (W.alloc (.cells #[.int .i64 0, .int .i64 0, .int .i64 0, .int .i64 0, .int .i64 0, .int .i64 0, .int .i64 0, .int .i64 0, .int .i64 0, .int .i64 0, .int .i64 0, .int .i64 0] 23 (0, 0))) W.heap.size (unpTo 0 0) := blk_new _ _
theorem FieldsAt.set {W : World} (h : FieldsAt W) (g k : Nat) (u : Value) (hg : g ≠ 0) : FieldsAt (W.setCell ⟨g, k, none⟩ u) :=
  ⟨by simpa [World.setCell] using h.1, fun j v hj => by
    have e := Below.heap_setCell W ⟨g, k, none⟩ u 0 (fun q => hg q.symm)
    rw [← h.2 j v hj]
    unfold World.cell?
    simp only [e]⟩
theorem unpack_call (w : World) (x : Nat) (hx : x < 18446744073709551616) (hF : FieldsAt w) :
    Calls Tryd.prog 14 #[.int .u64 x] w fun e w' => e = .returned (.agg (wcells (unpTo x 12))) ∧ Below w.heap.size w w' := by
  have P := Aside0.mk places_call
  have HF := Aside0.mk hF
  have h0 := hF.1
  clear hF
  go_enter Tryd.func14, Tryd.ntmps14
  go_wp2_with (first | (go_at_call 26; (with_reducible refine (P.out _ _).mono ?_); rintro e w1 ⟨q, rfl, hp, hb, hq⟩))
  have h1 : FieldsAt ((w.alloc (.cells (wcells (unpTo 0 0)) 23 (0, 0))).alloc (.cells (wcells (unpTo 0 0)) 23 (0, 0))) := (HF.out.then (below_alloc (Below.refl _ _) _)).then (below_alloc (Below.refl _ _) _)
  have hg : w.heap.size + 1 = (w.alloc (.cells (wcells (unpTo 0 0)) 23 (0, 0))).heap.size := by simp
  have hR : WordAt w1 w.heap.size (unpTo 0 0) := (show WordAt ((w.alloc (.cells (wcells (unpTo 0 0)) 23 (0, 0))).alloc (.cells (wcells (unpTo 0 0)) 23 (0, 0))) w.heap.size (unpTo 0 0) from blk_alloc (blk_new _ _) _).then hb
  have hW : WordAt w1 (w.heap.size + 1) (unpTo x 0) := (show WordAt ((w.alloc (.cells (wcells (unpTo 0 0)) 23 (0, 0))).alloc (.cells (wcells (unpTo 0 0)) 23 (0, 0))) (w.heap.size + 1) (unpTo 0 0) from by rw [hg]; exact blk_new _ _).then hb
  have hFd := h1.then hb
  have hB : Below w.heap.size w w1 := below_step (below_alloc (below_alloc (Below.refl _ _) _) _) hb
  have hqq : w.heap.size + 1 < q := by simp at hq; omega
  clear hb hq h1 hg
  have HB0 := Aside0.mk hB
  have HP := Aside0.mk hp
  have HR := Aside0.mk hR
  have HW := Aside0.mk hW
  have HFd := Aside0.mk hFd
  clear hB hp hR hW hFd P HF
  go_loopw [0, 9] (fun y i wr => ∃ k : Nat, k ≤ 12 ∧ i = .int .i64 k ∧ y = .int .u64 ((x / 2 ^ offN k : Nat) : Int) ∧ WordAt wr (w.heap.size + 1) (unpTo x k) ∧ PtrsAt wr q (w.heap.size + 1) ∧ FieldsAt wr ∧ WordAt wr w.heap.size (unpTo 0 0) ∧ Below w.heap.size w wr) (fun _ i _ => 12 - (intOf i).toNat)
  case atStart => exact ⟨0, by omega, rfl, by rw [show offN 0 = 0 from rfl, Nat.pow_zero, Nat.div_one], HW.out, HP.out, HFd.out, HR.out, HB0.out⟩
  case round =>
    obtain ⟨k, hk, rfl, rfl, hw, hp, hf, hr, hb⟩ := hrel
    have W := Aside0.mk hw
    have P := Aside0.mk hp
    have F := Aside0.mk hf
    have R := Aside0.mk hr
    have B := Aside0.mk hb
    clear HW HP HFd HR HB0
    by_cases hk12 : k = 12
    · subst hk12
      clear hw hp hf hr hb
      go_wp2_with (first
        | (refine wpList_load_row rfl 23 (.tmp 3) rfl (w.heap.size + 1) rfl _ _ _ _ W.out Tryd.underlying23 rfl infoW ?_)
        | (refine wpList_store_row rfl 23 (.tmp 2) (.tmp 30) rfl w.heap.size _ rfl rfl _ _ R.out infoW rfl (by kernel_rfl) ?_))
      refine bodyPost_ret (results_cell_row rfl _ _ w.heap.size 23 (wcells (unpTo x 12)) (0, 0) _ rfl (setRow_heap _ w.heap.size _ _ 23 _ R.out) Tryd.underlying23 rfl infoW) rfl ⟨rfl, below_setRow B.out (Nat.le_refl _) _⟩
    · have c1 := hp.cell k (by omega)
      have c2 := hw.cell k (by omega)
      have c3 := hf.bits k (by omega)
      have fz := hw.free k
      have hk' : k < 12 := by omega
      have hk'' : (k : Int) < 12 := by omega
      have hk0 : (0 : Int) ≤ k := by omega
      clear hw hp hf hr hb
      go_wp2
      go_roundw
      case rel =>
        rw [unp_step x k hx, unp_div x k]
        refine ⟨k + 1, by omega, rfl, rfl, ?_, ?_, F.out.set _ _ _ (by omega), ?_, below_set B.out (by omega)⟩
        · rw [← unpTo_next]; exact W.out.set k hk' _
        · exact (Below.heap_setCell _ ⟨w.heap.size + 1, k, none⟩ _ q (by show q ≠ w.heap.size + 1; omega)).trans P.out
        · exact (Below.heap_setCell _ ⟨w.heap.size + 1, k, none⟩ _ w.heap.size (by show w.heap.size ≠ w.heap.size + 1; omega)).trans R.out
      case measure => simp [intOf]; omega
/-- A row of twelve whole numbers. -/
def IntsAt (W : World) (b : Nat) (a : Nat → Int) : Prop := W.heap[b]? = some (.cells (wcells a) 3 (0, 0))
theorem IntsAt.lt {W : World} {b : Nat} {a : Nat → Int} (h : IntsAt W b a) : b < W.heap.size := (Array.getElem?_eq_some_iff.1 h).1
theorem IntsAt.then {W W' : World} {b : Nat} {a : Nat → Int} (h : IntsAt W b a) (k : Below W.heap.size W W') : IntsAt W' b a := (k.block b h.lt).trans h
theorem IntsAt.cell {W : World} {b : Nat} {a : Nat → Int} (h : IntsAt W b a) (i : Nat) (hi : i < 12) : W.cell? ⟨b, i, none⟩ = some (.int .i64 (a i)) := (cell_of_row W b i _ _ _ h).trans (wcells_at a i hi)
theorem IntsAt.free {W : World} {b : Nat} {a : Nat → Int} (h : IntsAt W b a) (j : Nat) : W.frozen? ⟨b, j, none⟩ = false := frozen_of_row W b j _ _ h
theorem IntsAt.set {W : World} {b : Nat} {a : Nat → Int} (h : IntsAt W b a) (k : Nat) (hk : k < 12) (x : Int) : IntsAt (W.setCell ⟨b, k, none⟩ (.int .i64 x)) b (updF a k x) := blk_put h k _ (wcells_set a k hk x)
/-- How many numbers each field has. -/
def wideF (i : Nat) : Int := ((2 ^ fb i : Nat) : Int)
def bitsF (i : Nat) : Int := ((fb i : Nat) : Int)
theorem wide_call (w : World) : Calls Tryd.prog 17 #[] w fun e w' => ∃ b, e = .returned (.slice (some ⟨b, 0, none⟩) 12 12) ∧ IntsAt w' b wideF ∧ Below w.heap.size w w' ∧ w.heap.size ≤ b := by
  go_enter Tryd.func17, Tryd.ntmps17
  go_wp2
  go_ret
  exact ⟨_, rfl, blk_new _ _, below_alloc (Below.refl _ _) _, Nat.le_refl _⟩
theorem bits_call (w : World) : Calls Tryd.prog 22 #[] w fun e w' => ∃ b, e = .returned (.slice (some ⟨b, 0, none⟩) 12 12) ∧ IntsAt w' b bitsF ∧ Below w.heap.size w w' ∧ w.heap.size ≤ b := by
  go_enter Tryd.func22, Tryd.ntmps22
  go_wp2
  go_ret
  exact ⟨_, rfl, blk_new _ _, below_alloc (Below.refl _ _) _, Nat.le_refl _⟩
theorem parts_call (w : World) (a : Nat → Int) : Calls Tryd.prog 16 #[.agg (wcells a)] w fun e w' => ∃ b, e = .returned (.slice (some ⟨b, 0, none⟩) 12 12) ∧ IntsAt w' b a ∧ Below w.heap.size w w' ∧ w.heap.size ≤ b := by
  unfold wcells
  go_enter Tryd.func16, Tryd.ntmps16
  go_wp2
  go_ret
  exact ⟨_, rfl, blk_new2 _ _ _, below_alloc (below_alloc (Below.refl _ _) _) _, by simp⟩
theorem rgood_call (w : World) (a : Nat → Int) : Calls Tryd.prog 10 #[.agg (wcells a)] w fun e w' => e = .returned (.bool (goodV a)) ∧ Below w.heap.size w w' := by
  have P := Aside0.mk parts_call
  have WD := Aside0.mk wide_call
  go_enter Tryd.func10, Tryd.ntmps10
  go_wp2_with (first | (refine wpList_load_row rfl 23 (.tmp 1) rfl w.heap.size rfl _ _ _ _ (blk_new _ _) Tryd.underlying23 rfl infoW ?_) | (go_at_call 16; (with_reducible refine (P.out _ _).mono ?_); rintro e w1 ⟨b, rfl, hp, hb, hq⟩))
  have HB := Aside0.mk (below_step (below_alloc (Below.refl w.heap.size w) _) hb)
  have HP := Aside0.mk hp
  clear hp hb hq P
  go_loopw [8] (fun i wr => ∃ k : Nat, k ≤ 12 ∧ i = .int .i64 k ∧ (∀ j, j < k → fitsV (a j) (fb j) = true) ∧ IntsAt wr b a ∧ Below w.heap.size w wr) (fun i _ => 12 - (intOf i).toNat)
  case atStart => exact ⟨0, by omega, rfl, fun j hj => absurd hj (by omega), HP.out, HB.out⟩
  case round =>
    obtain ⟨k, hk, rfl, hall, hp, hb⟩ := hrel
    have A := Aside0.mk hall
    have B := Aside0.mk hb
    have P := Aside0.mk hp
    clear hall HP HB
    by_cases hk12 : k = 12
    · subst hk12
      clear hb hp
      go_wp2
      go_ret
      refine ⟨congrArg (fun q => Ending.returned (Value.bool q)) ?_, B.out⟩
      unfold goodV
      rw [eq_comm, List.all_eq_true]
      intro j hj
      exact A.out j (List.mem_range.1 hj)
    · have c1 := hp.cell k (by omega)
      have hk' : k < 12 := by omega
      have hk'' : (k : Int) < 12 := by omega
      have hk0 : (0 : Int) ≤ k := by omega
      have WC := Aside0.mk (fun w1 => (wide_call w1).mono (R' := fun e w' => ∃ b, e = .returned (.slice (some ⟨b, 0, none⟩) 12 12) ∧ w'.cell? ⟨b, k, none⟩ = some (.int .i64 (wideF k)) ∧ Below w1.heap.size w1 w') (fun e w' ⟨b, h1, h2, h3, h4⟩ => ⟨b, h1, h2.cell k hk', h3⟩))
      clear hb hp WD
      have wd : fitsV (a k) (fb k) = decide (0 ≤ a k ∧ a k < wideF k) := by
        unfold fitsV wideF; congr 2
      have HWD := Aside0.mk wd
      clear wd
      generalize hz : a k = z at *
      have HZ := Aside0.mk hz
      clear hz
      by_cases h1 : 0 ≤ z
      · by_cases h2 : z < wideF k
        · go_wp2_with (first | (go_at_call 17; (with_reducible refine (WC.out _).mono ?_); rintro e w2 ⟨b2, rfl, c2, hb2⟩; have B2 := Aside0.mk hb2; clear hb2))
          go_roundw
          case rel => exact ⟨k + 1, by omega, rfl, fun j hj => (Nat.lt_succ_iff_lt_or_eq.1 hj).elim (A.out j) (fun e => by rw [e, HZ.out, HWD.out]; exact decide_eq_true ⟨h1, h2⟩), P.out.then B2.out, below_step B.out B2.out⟩
          case measure => simp [intOf]; omega
        · go_wp2_with (first | (go_at_call 17; (with_reducible refine (WC.out _).mono ?_); rintro e w2 ⟨b2, rfl, c2, hb2⟩; have B2 := Aside0.mk hb2; clear hb2))
          go_ret
          refine ⟨congrArg (fun q => Ending.returned (Value.bool q)) ?_, below_step B.out B2.out⟩
          unfold goodV
          rw [eq_comm]
          exact Bool.eq_false_iff.2 (fun h => by have := List.all_eq_true.1 h k (List.mem_range.2 hk'); rw [HZ.out, HWD.out] at this; exact absurd (of_decide_eq_true this).2 (by omega))
      · go_wp2
        go_ret
        refine ⟨congrArg (fun q => Ending.returned (Value.bool q)) ?_, B.out⟩
        unfold goodV
        rw [eq_comm]
        exact Bool.eq_false_iff.2 (fun h => by have := List.all_eq_true.1 h k (List.mem_range.2 hk'); rw [HZ.out, HWD.out] at this; exact absurd (of_decide_eq_true this).1 (by omega))
/-- Horner's way, from the twelfth part down. -/
def hornN (m : Nat → Nat) : Nat → Nat
  | 0 => 0
  | n + 1 => hornN m n * 2 ^ fb (11 - n) + m (11 - n)
theorem horn_eq (m : Nat → Nat) (n : Nat) : n ≤ 12 → hornN m n * 2 ^ offN (12 - n) + packN m (12 - n) = packN m 12 := by
  induction n with
  | zero => intro _; simp [hornN]
  | succ n ih =>
    intro h1
    have := ih (by omega)
    obtain ⟨q, hq⟩ : ∃ q, 12 - n = q + 1 := ⟨11 - n, by omega⟩
    rw [hq] at this
    rw [show 12 - (n + 1) = q from by omega]
    unfold hornN
    rw [show 11 - n = q from by omega]
    have e1 : packN m (q + 1) = packN m q + m q * 2 ^ offN q := rfl
    have e2 : offN (q + 1) = offN q + fb q := rfl
    rw [e1, e2, Nat.pow_add] at this
    rw [Nat.add_mul, Nat.mul_assoc, Nat.mul_comm (2 ^ fb q)]
    omega
theorem horn_pack (m : Nat → Nat) : hornN m 12 = packN m 12 := by
  have := horn_eq m 12 (Nat.le_refl _)
  rw [show (12 - 12 : Nat) = 0 from rfl, show offN 0 = 0 from rfl, Nat.pow_zero, Nat.mul_one] at this
  exact this
theorem horn_lt (m : Nat → Nat) (h : ∀ j, j < 12 → m j < 2 ^ fb j) (n : Nat) (hn : n ≤ 12) : hornN m n < 18446744073709551616 := by
  have h12 := packN_lt m 12 h
  have h2 := horn_eq m n hn
  have h3 : 1 ≤ 2 ^ offN (12 - n) := Nat.one_le_two_pow
  have h4 : hornN m n ≤ hornN m n * 2 ^ offN (12 - n) := Nat.le_mul_of_pos_right _ h3
  have h5 : 2 ^ offN 12 = 18446744073709551616 := by decide
  omega
end Go.Proofs.YtpjgklpppiongaaDoor.UwWalk
