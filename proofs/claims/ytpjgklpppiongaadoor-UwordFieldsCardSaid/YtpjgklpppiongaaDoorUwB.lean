/- The words' functions of layer 14, walked: Pack, Unpack. -/
import Derived.Test.YtpjgklpppiongaaDoorUwA
namespace Go.Proofs.YtpjgklpppiongaaDoor.UwWalk
open Go.RowKit Go.Proofs.YtpjgklpppiongaaDoor.Aid Go.Proofs.YtpjgklpppiongaaDoorW.PrintWords Go.Proofs.YtpjgklpppiongaaDoorW.PrintLast Go.Proofs.YtpjgklpppiongaaDoorW.PrintMore
set_option linter.unusedVariables false
set_option linter.unusedSimpArgs false

/-- Where a field begins. -/
def offN : Nat → Nat
  | 0 => 0
  | n + 1 => offN n + fb n
/-- A number out of the lowest n parts. -/
def packN (m : Nat → Nat) : Nat → Nat
  | 0 => 0
  | n + 1 => packN m n + m n * 2 ^ offN n
theorem infoW : (Tryd.prog.info? 23).map (·.size) = some 12 := by kernel_rfl
theorem good_nat {a : Nat → Int} (h : goodV a = true) (i : Nat) (hi : i < 12) : a i = ((a i).toNat : Int) ∧ (a i).toNat < 2 ^ fb i := by
  unfold goodV at h
  have := List.all_eq_true.1 h i (List.mem_range.2 hi)
  unfold fitsV at this
  have := of_decide_eq_true this
  refine ⟨by omega, ?_⟩
  have h2 := this.2
  have e : ((2 : Int) ^ fb i) = ((2 ^ fb i : Nat) : Int) := by simp
  rw [e] at h2
  omega
theorem off_fb : ∀ k, k < 12 → offN k + fb k ≤ 64 := by decide
theorem off_le (k : Nat) (hk : k ≤ 12) : offN k ≤ 64 := by
  have : ∀ k, k < 13 → offN k ≤ 64 := by decide
  exact this k (by omega)
theorem packN_lt (m : Nat → Nat) : ∀ k, (∀ j, j < k → m j < 2 ^ fb j) → packN m k < 2 ^ offN k
  | 0, _ => show (0 : Nat) < 1 from Nat.one_pos
  | k + 1, h => by
    have ih := packN_lt m k (fun j hj => h j (by omega))
    have hm := h k (by omega)
    unfold packN
    show _ < 2 ^ (offN k + fb k)
    rw [Nat.pow_add]
    have : m k * 2 ^ offN k + 2 ^ offN k ≤ 2 ^ offN k * 2 ^ fb k := by
      rw [show m k * 2 ^ offN k + 2 ^ offN k = 2 ^ offN k * (m k + 1) from by rw [Nat.mul_add, Nat.mul_one, Nat.mul_comm]]
      exact Nat.mul_le_mul_left _ hm
    omega
theorem pack_or (m : Nat → Nat) (k : Nat) (hk : k < 12) (h : ∀ j, j < 12 → m j < 2 ^ fb j) (x : Int) (hx : x = (m k : Int)) :
    bits .or .u64 ((packN m k : Nat) : Int) (IntKind.u64.wrap (IntKind.u64.wrap x * 2 ^ min (offN k) 64)) = ((packN m (k + 1) : Nat) : Int) := by
  subst hx
  have h1 := packN_lt m k (fun j hj => h j (by omega))
  have h2 := packN_lt m (k + 1) (fun j hj => h j (by omega))
  have ho := off_fb k hk
  have hpo : 2 ^ offN k ≤ 2 ^ 64 := Nat.pow_le_pow_right (by decide) (by omega)
  have hp1 : 2 ^ offN (k + 1) ≤ 2 ^ 64 := Nat.pow_le_pow_right (by decide) ho
  have hm := h k hk
  have hmb : 2 ^ fb k ≤ 2 ^ 11 := Nat.pow_le_pow_right (by decide) (fb_le k)
  have e1 : packN m (k + 1) = packN m k + m k * 2 ^ offN k := rfl
  have hlt : m k * 2 ^ offN k < 18446744073709551616 := by
    have : packN m (k + 1) < 18446744073709551616 := Nat.lt_of_lt_of_le h2 hp1
    omega
  have w1 : IntKind.u64.wrap ((m k : Nat) : Int) = ((m k : Nat) : Int) := by
    show ((m k : Nat) : Int) % 18446744073709551616 = _
    have : m k < 2048 := Nat.lt_of_lt_of_le hm hmb
    omega
  have w2 : IntKind.u64.wrap (((m k : Nat) : Int) * 2 ^ min (offN k) 64) = ((m k * 2 ^ offN k : Nat) : Int) := by
    rw [Nat.min_eq_left (by omega), show ((m k : Nat) : Int) * 2 ^ offN k = ((m k * 2 ^ offN k : Nat) : Int) from by simp]
    show _ % 18446744073709551616 = _
    omega
  rw [w1, w2, u64_or_nat _ _ (Nat.lt_of_lt_of_le h1 hpo) hlt, e1, Nat.or_comm, show m k * 2 ^ offN k = m k <<< offN k from by rw [Nat.shiftLeft_eq], ← Nat.shiftLeft_add_eq_or_of_lt h1, Nat.add_comm]
theorem pack_no (w : World) (a : Nat → Int) (hF : FieldsAt w) (hg : goodV a = false) :
    Calls Tryd.prog 11 #[.agg (wcells a)] w fun e w' => e = .returned (.tuple #[.int .u64 0, .int .i64 1]) ∧ Below w.heap.size w w' := by
  have G := Aside0.mk (good_call (w.alloc (.cells (wcells a) 23 (0, 0))) a (hF.then (below_alloc (Below.refl _ _) _)))
  rw [hg] at G
  clear hF hg
  go_enter Tryd.func11, Tryd.ntmps11
  go_wp2_with (first | (refine wpList_load_row rfl 23 (.tmp 1) rfl w.heap.size rfl _ _ _ _ (blk_new _ _) Tryd.underlying23 rfl infoW ?_) | (go_at_call 12; (with_reducible refine (G.out).mono ?_); rintro e w1 ⟨rfl, hb⟩))
  go_ret2
  exact ⟨rfl, below_step (below_alloc (Below.refl _ _) _) hb⟩
theorem pack_yes (w : World) (a : Nat → Int) (hF : FieldsAt w) (hg : goodV a = true) :
    Calls Tryd.prog 11 #[.agg (wcells a)] w fun e w' => e = .returned (.tuple #[.int .u64 (packN (fun i => (a i).toNat) 12), .int .i64 0]) ∧ Below w.heap.size w w' := by
  have HG := Aside0.mk (fun i hi => good_nat hg i hi)
  have G := Aside0.mk (good_call (w.alloc (.cells (wcells a) 23 (0, 0))) a (hF.then (below_alloc (Below.refl _ _) _)))
  rw [hg] at G
  have P := Aside0.mk places_call
  have HF := Aside0.mk hF
  clear hF hg
  go_enter Tryd.func11, Tryd.ntmps11
  go_wp2_with (first | (refine wpList_load_row rfl 23 (.tmp 1) rfl w.heap.size rfl _ _ _ _ (blk_new _ _) Tryd.underlying23 rfl infoW ?_) | (go_at_call 12; (with_reducible refine (G.out).mono ?_); rintro e w1 ⟨rfl, hb1⟩; have B1 := Aside0.mk hb1; clear hb1) | (go_at_call 26; (with_reducible refine (P.out _ _).mono ?_); rintro e w2 ⟨q, rfl, hp, hb, hq⟩))
  obtain ⟨g, hg⟩ : ∃ g, g = w.heap.size := ⟨_, rfl⟩
  have B12 := below_step B1.out hb
  have C : UwCtx w2 q w.heap.size a := ⟨hp, (show WordAt (w.alloc _) w.heap.size a from blk_new _ _).then B12, (HF.out.then (below_alloc (Below.refl _ _) _)).then B12⟩
  have B := Aside0.mk (below_step (below_alloc (Below.refl w.heap.size w) _) B12)
  rw [← hg] at C
  have HC := Aside0.mk C
  clear hp hb hq C hg HF B1 B12 G
  go_loopw [4, 5, 13] (fun x at_ i wr => ∃ k : Nat, k ≤ 12 ∧ i = .int .i64 k ∧ at_ = .int .i64 (offN k) ∧ x = .int .u64 (packN (fun i => (a i).toNat) k) ∧ Below w2.heap.size w2 wr) (fun _ _ i _ => 12 - (intOf i).toNat)
  case atStart => exact ⟨0, by omega, rfl, rfl, rfl, Below.refl _ _⟩
  case round =>
    obtain ⟨k, hk, rfl, rfl, rfl, hb⟩ := hrel
    have HB := Aside0.mk hb
    by_cases hk12 : k = 12
    · subst hk12
      clear hb
      go_wp2
      go_ret2
      exact ⟨rfl, below_step B.out HB.out⟩
    · have C := HC.out.then hb
      have c1 := C.p.cell k (by omega)
      have c2 := C.w.cell k (by omega)
      have c3 := C.f.bits k (by omega)
      have hk' : k < 12 := by omega
      have hk'' : (k : Int) < 12 := by omega
      have hk0 : (0 : Int) ≤ k := by omega
      clear C hb
      go_wp2
      have ho := off_fb k hk'
      go_roundw
      case rel => exact ⟨k + 1, by omega, rfl, congrArg (Value.int .i64) (by rw [show offN (k + 1) = offN k + fb k from rfl, wrap64_in (by omega) (by omega)]; omega), congrArg (Value.int .u64) (pack_or (fun i => (a i).toNat) k hk' (fun j hj => (HG.out j hj).2) _ (HG.out k hk').1), HB.out⟩
      case measure => simp [intOf]; omega
end Go.Proofs.YtpjgklpppiongaaDoor.UwWalk
