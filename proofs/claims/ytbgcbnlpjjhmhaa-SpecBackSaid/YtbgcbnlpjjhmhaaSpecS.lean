/- SpecBack: what Decode answers (as it was walked for SpecSizes) in SpecBack's plain words. -/
import Derived.Test.YtbgcbnlpjjhmhaaSpecQ
import Derived.Test.YtbgcbnlpjjhmhaaSpecR
import Derived.Test.YtbgcbnlpjjhmhaaPureSpecSizes
namespace Go.Proofs.Ytbgcbnlpjjhmhaa.SpecWalk
open Go.RowKit Go.Proofs.Ytbgcbnlpjjhmhaa.Aid Go.Proofs.Ytbgcbnlpjjhmhaa.Pure Go.Proofs.Ytbgcbnlpjjhmhaa.GSpecSizes Go.Proofs.YtbgcbnlpjjhmhaaW.PrintWords Go.Proofs.YtbgcbnlpjjhmhaaW.PrintLast Go.Proofs.YtbgcbnlpjjhmhaaW.PrintMore
set_option linter.unusedVariables false
set_option linter.unusedSimpArgs false
def Bys (l : List Int) : Prop := ∀ x ∈ l, 0 ≤ x ∧ x < 256
theorem Bys.get {l : List Int} (h : Bys l) (i : Nat) : 0 ≤ l.getD i 0 ∧ l.getD i 0 < 256 := by
  by_cases hi : i < l.length
  · rw [List.getD_eq_getElem?_getD, List.getElem?_eq_getElem hi]; exact h _ (List.getElem_mem hi)
  · rw [List.getD_eq_getElem?_getD, List.getElem?_eq_none (by omega)]; exact ⟨by decide, by decide⟩
theorem leD_snoc : ∀ (a : List Int) (b : Int), leD (a ++ [b]) = leD a + 256 ^ a.length * b
  | [], b => by show b + 256 * 0 = 0 + 256 ^ 0 * b; omega
  | x :: a, b => by
    show x + 256 * leD (a ++ [b]) = x + 256 * leD a + 256 ^ (a.length + 1) * b
    rw [leD_snoc a b, Int.pow_succ, Int.mul_add]
    generalize (256 : Int) ^ a.length = q
    rw [Int.mul_comm q 256, Int.mul_assoc]; omega
theorem leD_bnd : ∀ l : List Int, Bys l → 0 ≤ leD l ∧ leD l < 256 ^ l.length
  | [], _ => ⟨by decide, by decide⟩
  | x :: t, h => by
    have h1 := h x List.mem_cons_self
    have h2 := leD_bnd t (fun y hy => h y (List.mem_cons_of_mem _ hy))
    show 0 ≤ x + 256 * leD t ∧ x + 256 * leD t < 256 ^ (t.length + 1)
    rw [Int.pow_succ]
    omega
theorem num_step (l : List Int) (hl : Bys l) (h4 : l.length ≤ 4) (i : Nat) (hi : i < l.length) :
    Go.bits .or .u32 (leD (l.take i)) (shl .u32 ((rd l (i : Int)) % 4294967296) (8 * (i : Int))) = leD (l.take (i + 1)) := by
  have e : l.take (i + 1) = l.take i ++ [l.getD i 0] := by
    rw [List.take_add_one, List.getElem?_eq_getElem hi, List.getD_eq_getElem?_getD, List.getElem?_eq_getElem hi]; rfl
  have hg := hl.get i
  have hb := leD_bnd (l.take i) (fun x hx => hl x (List.mem_of_mem_take hx))
  have hlen : (l.take i).length = i := by rw [List.length_take]; omega
  rw [e, leD_snoc, hlen]
  rw [hlen] at hb
  unfold rd
  rw [Int.toNat_natCast]
  generalize l.getD i 0 = y at *
  obtain ⟨m, rfl⟩ : ∃ m : Nat, y = m := ⟨y.toNat, by omega⟩
  generalize leD (l.take i) = x at *
  obtain ⟨x, rfl⟩ : ∃ n : Nat, x = n := ⟨x.toNat, by omega⟩
  have hp : (256 : Nat) ^ i = 2 ^ (8 * i) := by rw [Nat.pow_mul]
  have hx : x < 2 ^ (8 * i) := by rw [← hp]; exact Int.ofNat_lt.1 (by rw [Int.natCast_pow]; exact hb.2)
  rw [or_at x m (8 * i) (by omega) hx (by omega) _ (by omega), ← hp, Int.natCast_add, Int.natCast_mul, Int.natCast_pow, Int.mul_comm]
  rfl
theorem num_loop (l : List Int) (hl : Bys l) (h4 : l.length ≤ 4) (d : Nat) : ∀ (k i : Nat), i + d = l.length → d < k → spec_number.l0 k (leD (l.take i)) l (l.length : Int) (i : Int) = some (leD l) := by
  induction d with
  | zero =>
    intro k i hi hk
    obtain ⟨k, rfl⟩ : ∃ m, k = m + 1 := ⟨k - 1, by omega⟩
    simp only [spec_number.l0]
    rw [if_neg (by omega), List.take_of_length_le (by omega)]
  | succ d ih =>
    intro k i hi hk
    obtain ⟨k, rfl⟩ : ∃ m, k = m + 1 := ⟨k - 1, by omega⟩
    simp only [spec_number.l0]
    rw [if_pos (by omega), if_pos (by omega), if_pos (by omega), wrap64_in (n := 8 * (i : Int)) (by omega) (by omega), if_pos (by omega), wrap64_in (n := (i : Int) + 1) (by omega) (by omega),
      show ((i : Int) + 1) = ((i + 1 : Nat) : Int) from by omega, num_step l hl h4 i (by omega)]
    exact ih k (i + 1) (by omega) (by omega)
theorem num_eq (l : List Int) (hl : Bys l) (h4 : l.length ≤ 4) : numI l = leD l := by
  have := num_loop l hl h4 l.length 5 0 (by omega) (by omega)
  rw [List.take_zero] at this
  unfold numI spec_number.f
  rw [show (0 : Int) = leD [] from rfl, show ((0 : Nat) : Int) = leD [] from rfl] at *
  rw [this]
  rfl
theorem ext_eq (x n : Nat) (hx : x < 4294967296) (hn : Sz n) : extI (x : Int) (n : Int) = ((extD x n : Nat) : Int) := by
  unfold extI bits_Extend.f bits_Neg.f bits_Top.f
  rcases hn with rfl | rfl | rfl
  · have e := ext_bits x 1 hx (.inl rfl) 255 (Go.bits .andNot .u32 255 (255 / 2)) (Go.bits .xor .u32 4294967295 255) rfl (by decide +kernel) (by decide +kernel)
    rw [show bits_Mask.f ((1 : Nat) : Int) = some 255 from rfl]
    simp only [Option.bind_some]
    rw [← e]
    split <;> rfl
  · have e := ext_bits x 2 hx (.inr (.inl rfl)) 65535 (Go.bits .andNot .u32 65535 (65535 / 2)) (Go.bits .xor .u32 4294967295 65535) rfl (by decide +kernel) (by decide +kernel)
    rw [show bits_Mask.f ((2 : Nat) : Int) = some 65535 from rfl]
    simp only [Option.bind_some]
    rw [← e]
    split <;> rfl
  · have e := ext_bits x 4 hx (.inr (.inr rfl)) 4294967295 (Go.bits .andNot .u32 4294967295 (4294967295 / 2)) (Go.bits .xor .u32 4294967295 4294967295) rfl (by decide +kernel) (by decide +kernel)
    rw [show bits_Mask.f ((4 : Nat) : Int) = some 4294967295 from rfl]
    simp only [Option.bind_some]
    rw [← e]
    split <;> rfl
theorem val_eq (kind reg : Int) (a n : Nat) (hn : Sz n) (l : List Int) (hl : Bys l) : valS kind reg a n l = valD kind reg a n l := by
  unfold valS valD
  by_cases h : l.length < a + n
  · rw [if_pos h, if_pos h]; rfl
  · rw [if_neg h, if_neg h]
    have hb : Bys ((l.take (a + n)).drop a) := fun x hx => hl x (List.mem_of_mem_take (List.mem_of_mem_drop hx))
    have hlen : ((l.take (a + n)).drop a).length = n := by rw [List.length_drop, List.length_take]; omega
    have hn4 : n ≤ 4 := by rcases hn with rfl | rfl | rfl <;> decide
    have b := leD_bnd _ hb
    rw [hlen] at b
    have hp : (256 : Int) ^ n ≤ 4294967296 := by rcases hn with rfl | rfl | rfl <;> decide
    rw [num_eq _ hb (by omega)]
    obtain ⟨x, hx⟩ : ∃ x : Nat, leD ((l.take (a + n)).drop a) = x := ⟨(leD ((l.take (a + n)).drop a)).toNat, by omega⟩
    rw [hx, ext_eq x n (by omega) hn, Int.toNat_natCast]
theorem rd0 (l : List Int) : rd l 0 = l.getD 0 0 := rfl
theorem plain_eq (l : List Int) (hl : Bys l) (acc : Int) (n : Nat) (hn : Sz n) : plainS l acc n = plainD (l.getD 0 0).toNat l acc n := by
  have hb := hl.get 0
  unfold plainS plainD
  rw [rd0]
  generalize hq : (l.getD 0 0).toNat = b
  have hbb : b < 256 := by omega
  have v4 : ∀ kd rg, valS kd rg 1 4 l = valD kd rg 1 4 l := fun kd rg => val_eq kd rg 1 4 (.inr (.inr rfl)) l hl
  have vn : ∀ kd rg, valS kd rg 1 n l = valD kd rg 1 n l := fun kd rg => val_eq kd rg 1 n hn l hl
  have vp : ∀ kd rg, valS kd rg 1 (2 ^ ((b / 16 - 10) / 2)) l = valD kd rg 1 (2 ^ ((b / 16 - 10) / 2)) l := fun kd rg => val_eq kd rg 1 _ (by
    have hN : (b / 16 - 10) / 2 = 0 ∨ (b / 16 - 10) / 2 = 1 ∨ (b / 16 - 10) / 2 = 2 := by omega
    rcases hN with h | h | h <;> rw [h] <;> simp [Sz]) l hl
  simp only
  by_cases h4 : b / 16 < 4
  · rw [if_pos h4, if_pos h4]; rfl
  rw [if_neg h4, if_neg h4]
  unfold plain0 plain1 plain2
  by_cases q1 : b / 16 = 4 ∨ (b / 16 < 8 ∧ b % 16 = 15) ∨ (b / 16 = 5 ∧ acc = 97)
  · rw [if_pos q1, if_pos (by simp only [Bool.or_eq_true, Bool.and_eq_true, decide_eq_true_eq]; exact q1.elim (fun h => .inl (.inl h)) (fun h => h.elim (fun h => .inl (.inr h)) (fun h => .inr h)))]; rfl
  · rw [if_neg q1, if_neg (by simp only [Bool.or_eq_true, Bool.and_eq_true, decide_eq_true_eq]; exact fun q => q.elim (fun q => q.elim (fun h => q1 (.inl h)) (fun h => q1 (.inr (.inl h)))) (fun h => q1 (.inr (.inr h))))]
    by_cases q2 : b / 16 = 8 ∧ b % 16 = 15
    · rw [if_pos q2, if_pos (by simp only [Bool.and_eq_true, decide_eq_true_eq]; exact q2), vn]; rfl
    · rw [if_neg q2, if_neg (by simp only [Bool.and_eq_true, decide_eq_true_eq]; exact q2)]
      by_cases q3 : b / 16 = 9 ∧ b % 16 = 15
      · rw [if_pos q3, if_pos (by simp only [Bool.and_eq_true, decide_eq_true_eq]; exact q3), v4]
      · rw [if_neg q3, if_neg (by simp only [Bool.and_eq_true, decide_eq_true_eq]; exact q3)]
        by_cases q4 : b / 16 < 10
        · rw [if_pos q4, if_pos q4]
        · rw [if_neg q4, if_neg q4, vp]
theorem plain_len (b : Nat) (l : List Int) (acc : Int) (n : Nat) (hn : Sz n) : 0 ≤ (plainD b l acc n).2.2.2.2.1 ∧ (plainD b l acc n).2.2.2.2.1 ≤ 65600 ∨ 16 ≤ b / 16 := by
  have hn4 : n ≤ 4 := by rcases hn with rfl | rfl | rfl <;> decide
  by_cases hb : 16 ≤ b / 16
  · exact .inr hb
  left
  have hp : 2 ^ ((b / 16 - 10) / 2) ≤ 4 := Nat.le_trans (Nat.pow_le_pow_right (by decide) (by omega : (b / 16 - 10) / 2 ≤ 2)) (by decide)
  have hv : ∀ kd rg (m : Nat), m ≤ 4 → 0 ≤ (valD kd rg 1 m l).2.2.2.2.1 ∧ (valD kd rg 1 m l).2.2.2.2.1 ≤ 65600 := fun kd rg m hm => by
    unfold valD longD
    split <;> simp only <;> omega
  unfold plainD
  split
  · split
    · simp
    · unfold badD; simp
  split
  · unfold badD; simp
  split
  · split
    · exact hv _ _ _ hn4
    · unfold badD; simp
  split
  · exact hv _ _ _ (by decide)
  split
  · simp
  · exact hv _ _ _ hp
theorem dec_eq (l : List Int) (hl : Bys l) (acc : Int) (n : Nat) (hn : Sz n) : decodeS l acc n = decD l acc n := by
  unfold decodeS decD
  by_cases hc : acc ∉ ([114, 119, 109, 97, 118, 98] : List Int)
  · rw [if_pos hc, if_pos hc]
  rw [if_neg hc, if_neg hc]
  by_cases ha : acc = 98
  · rw [if_pos ha, if_pos ha, val_eq 12 0 0 n hn l hl]
  rw [if_neg ha, if_neg ha]
  by_cases h0 : l.length = 0
  · rw [if_pos h0, if_pos h0]; rfl
  rw [if_neg h0, if_neg h0, rd0]
  by_cases h4 : (l.getD 0 0).toNat / 16 = 4
  · rw [if_pos h4, if_pos h4]
    unfold indexedS indexD
    rw [rd0]
    by_cases h15 : (l.getD 0 0).toNat % 16 = 15
    · rw [if_pos h15, if_pos h15]; rfl
    rw [if_neg h15, if_neg h15]
    obtain ⟨y, t, rfl⟩ : ∃ y t, l = y :: t := by
      cases l with
      | nil => exact absurd rfl h0
      | cons y t => exact ⟨y, t, rfl⟩
    have ht : Bys t := fun x hx => hl x (List.mem_cons_of_mem _ hx)
    have r1 : rd (y :: t) 1 = t.getD 0 0 := by unfold rd; simp
    simp only [List.drop_succ_cons, List.drop_zero, List.length_cons, r1]
    by_cases h1 : t.length = 0
    · rw [if_pos (by omega), if_pos h1]; rfl
    rw [if_neg (by omega), if_neg h1]
    by_cases h6 : (t.getD 0 0).toNat / 16 < 6 ∨ t.getD 0 0 = 143
    · rw [if_pos h6, if_pos h6]; rfl
    rw [if_neg h6, if_neg h6, plain_eq t ht acc n hn]
    unfold idxD
    have hpl := plain_len (t.getD 0 0).toNat t acc n hn
    have ht0 := ht.get 0
    have hpl := hpl.resolve_right (by omega)
    generalize plainD (t.getD 0 0).toNat t acc n = p at *
    have hw : wrap64 (p.2.2.2.2.1 + 1) = p.2.2.2.2.1 + 1 := wrap64_in (by omega) (by omega)
    by_cases hz : p.2.2.2.2.2 = 0
    · rw [if_pos hz, if_pos hz]
      by_cases h14 : p.1 = 14
      · rw [if_pos h14, if_pos h14, hz, hw]
      · rw [if_neg h14, if_neg h14, hz, hw]
    · rw [if_neg hz, if_neg hz]
  · rw [if_neg h4, if_neg h4, plain_eq l hl acc n hn]
end Go.Proofs.Ytbgcbnlpjjhmhaa.SpecWalk
