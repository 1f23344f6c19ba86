/- But for the number at hand the size of an operand plays no part in how its specifier is read: the pure statement behind SpecSizes. No condition. -/
import Derived.Test.YtbgcbnlpjjhmhaaGSpecSizesx5
import Derived.Test.YtbgcbnlpjjhmhaaAid
namespace Go.Proofs.Ytbgcbnlpjjhmhaa.Pure
open Go.RowKit Go.Proofs.Ytbgcbnlpjjhmhaa.Aid Go.Proofs.Ytbgcbnlpjjhmhaa.GSpecSizes Go.Proofs.YtbgcbnlpjjhmhaaW.PrintWords Go.Proofs.YtbgcbnlpjjhmhaaW.PrintLast

/-! What Decode answers, in plain words: (kind, register, index, value, bytes, error). -/
abbrev T6 := Int × Int × Int × Int × Int × Int

/-- A byte as a number. -/
def byt (x : Int) : Prop := 0 ≤ x ∧ x < 256
theorem rd_byt {l : List Int} (h : ∀ x ∈ l, byt x) (i : Int) : byt (rd l i) := by
  unfold rd
  rw [List.getD_eq_getElem?_getD]
  cases hq : l[i.toNat]? with
  | none => exact ⟨by decide, by decide⟩
  | some v => exact h v (List.mem_of_getElem? hq)

theorem number_l0 (l : List Int) (hl : l.length ≤ 4) (d : Nat) : ∀ (k i : Nat) (x : Int), i + d = l.length → d < k → ∃ v, spec_number.l0 k x l (l.length : Int) (i : Int) = some v := by
  induction d with
  | zero =>
    intro k i x hi hk
    obtain ⟨k, rfl⟩ : ∃ m, k = m + 1 := ⟨k - 1, by omega⟩
    exact ⟨x, by simp only [spec_number.l0]; rw [if_neg (by omega)]⟩
  | succ d ih =>
    intro k i x hi hk
    obtain ⟨k, rfl⟩ : ∃ m, k = m + 1 := ⟨k - 1, by omega⟩
    simp only [spec_number.l0]
    rw [if_pos (by omega), if_pos (by omega), if_pos (by omega), wrap64_in (n := 8 * (i : Int)) (by omega) (by omega), if_pos (by omega), wrap64_in (n := (i : Int) + 1) (by omega) (by omega),
      show ((i : Int) + 1) = ((i + 1 : Nat) : Int) from by omega]
    exact ih k (i + 1) _ (by omega) (by omega)

/-- The number that at most four bytes are. -/
def numI (l : List Int) : Int := (spec_number.f 5 l).getD 0
theorem number_is (l : List Int) (hl : l.length ≤ 4) (j : Nat) : spec_number.f (5 + j) l = some (numI l) := by
  induction j with
  | zero =>
    obtain ⟨v, hv⟩ := number_l0 l hl l.length 5 0 0 (by omega) (by omega)
    have : spec_number.f 5 l = some v := hv
    unfold numI
    rw [Nat.add_zero, this]; rfl
  | succ j ih => exact spec_number.mono l (5 + j) _ ih

theorem mask_some (n : Int) : ∃ m, bits_Mask.f n = some m := by
  unfold bits_Mask.f
  split
  · exact ⟨_, rfl⟩
  · split
    · exact ⟨_, rfl⟩
    · split <;> exact ⟨_, rfl⟩

theorem extend_some (x n : Int) : ∃ m, bits_Extend.f x n = some m := by
  obtain ⟨m, hm⟩ := mask_some n
  unfold bits_Extend.f bits_Neg.f bits_Top.f
  rw [hm]
  simp only [Option.bind_some]
  split <;> exact ⟨_, rfl⟩

def extI (x n : Int) : Int := (bits_Extend.f x n).getD 0
theorem extend_is (x n : Int) : bits_Extend.f x n = some (extI x n) := by
  obtain ⟨m, hm⟩ := extend_some x n
  unfold extI
  rw [hm]; rfl

def longS : T6 := (0, 0, 0, 0, 0, 3)
def badS (n : Int) : T6 := (14, 0, -1, 0, n, 0)
/-- A specifier of 'a' bytes and a number of n more. -/
def valS (kind reg : Int) (a n : Nat) (l : List Int) : T6 := if l.length < a + n then longS else (kind, reg, -1, extI (numI ((l.take (a + n)).drop a)) n, ((a + n : Nat) : Int), 0)

theorem value_is (k : Nat) (hk : 5 ≤ k) (kind reg : Int) (a n : Nat) (ha : a ≤ 1) (hn : n ≤ 4) (l : List Int) : spec_value.f k kind reg (a : Int) (n : Int) l = some (valS kind reg a n l) := by
  obtain ⟨j, rfl⟩ : ∃ j, k = 5 + j := ⟨k - 5, by omega⟩
  unfold spec_value.f valS
  rw [wrap64_in (by omega) (by omega)]
  by_cases h : l.length < a + n
  · rw [if_pos (by omega), if_pos h]; rfl
  · rw [if_neg (by omega), if_neg h, if_pos (by omega), if_pos (by omega), if_pos (by omega), show ((a : Int) + (n : Int)).toNat = a + n from by omega, show (a : Int).toNat = a from by omega,
      number_is _ (by rw [List.length_drop, List.length_take]; omega) j, Option.bind_some, extend_is, Option.bind_some]
    rfl

theorem u8_low (b : Nat) (h : b < 256) : Go.bits .and .u8 (b : Int) 15 = ((b % 16 : Nat) : Int) := by
  have : ∀ b : Fin 256, Go.bits .and .u8 (b.val : Int) 15 = ((b.val % 16 : Nat) : Int) := by decide +kernel
  exact this ⟨b, h⟩
theorem u8_six (b : Nat) (h : b < 256) : Go.bits .and .u8 (b : Int) 63 = ((b % 64 : Nat) : Int) := by
  have : ∀ b : Fin 256, Go.bits .and .u8 (b.val : Int) 63 = ((b.val % 64 : Nat) : Int) := by decide +kernel
  exact this ⟨b, h⟩
theorem shl_size (h : Nat) (h1 : 10 ≤ h) (h2 : h < 16) : shl .i64 1 (((h - 10) / 2 : Nat) : Int) = ((2 ^ ((h - 10) / 2) : Nat) : Int) := by
  have : ∀ b : Fin 3, shl .i64 1 ((b.val : Nat) : Int) = ((2 ^ b.val : Nat) : Int) := by decide +kernel
  exact this ⟨(h - 10) / 2, by omega⟩
theorem eta6 (p : T6) : (p.1, p.2.1, p.2.2.1, p.2.2.2.1, p.2.2.2.2.1, p.2.2.2.2.2) = p := rfl
theorem bad_is (n : Int) : spec_bad.f n = some (badS n) := rfl

/-- The last turn of a specifier without an index. -/
def plain2 (l : List Int) (h m : Nat) (c : Bool) (r : T6) : T6 :=
  if c = true then valS 13 0 1 4 l else if h < 10 then r else valS ((10 + h % 2 : Nat) : Int) (m : Int) 1 (2 ^ ((h - 10) / 2)) l
theorem plain2_is (k : Nat) (hk : 5 ≤ k) (l : List Int) (h m : Nat) (hh : h < 16) (c : Bool) (x y z u v : Int) :
    spec_plain.j2 (k + 1) l (h : Int) (m : Int) c x y z u v = some (plain2 l h m c (x, y, z, u, v, 0)) := by
  unfold spec_plain.j2 plain2; dsimp only
  by_cases hc : c = true
  · rw [if_pos hc, if_pos hc]
    have e := value_is k hk 13 0 1 4 (by omega) (by omega) l
    rw [show ((1 : Nat) : Int) = 1 from rfl, show ((4 : Nat) : Int) = 4 from rfl] at e
    rw [e, Option.bind_some, eta6]
  · rw [if_neg hc, if_neg hc]
    by_cases h10 : h < 10
    · rw [if_pos (by omega), if_pos h10]
    · have e1 : wrap64 (Int.tdiv (wrap64 ((h : Int) - 10)) 2) = (((h - 10) / 2 : Nat) : Int) := by
        rw [wrap64_in (n := (h : Int) - 10) (by omega) (by omega), show ((h : Int) - 10) = ((h - 10 : Nat) : Int) from by omega, show (2 : Int) = ((2 : Nat) : Int) from rfl, tdiv_nat, wrap64_in (by omega) (by omega)]
      have e2 : wrap64 (10 + Go.bits .and .i64 (h : Int) 1) = ((10 + h % 2 : Nat) : Int) := by
        rw [i64_mask 1 (by decide) (h : Int) 1 rfl, wrap64_in (by omega) (by omega)]; omega
      have hp : 2 ^ ((h - 10) / 2) ≤ 4 := Nat.le_trans (Nat.pow_le_pow_right (by decide) (by omega : (h - 10) / 2 ≤ 2)) (by decide)
      have e := value_is k hk ((10 + h % 2 : Nat) : Int) (m : Int) 1 (2 ^ ((h - 10) / 2)) (by omega) hp l
      rw [show ((1 : Nat) : Int) = 1 from rfl] at e
      rw [if_neg (by omega), if_neg h10, e1, if_pos (by omega), e2, shl_size h (by omega) hh, e, Option.bind_some, eta6]

def plain1 (l : List Int) (acc : Int) (n : Nat) (h m : Nat) (d c : Bool) (r : T6) : T6 :=
  if d = true then (if acc = 114 then valS 12 0 1 n l else badS 1) else plain2 l h m (decide (h = 9) && c) r
theorem plain1_is (k : Nat) (hk : 6 ≤ k) (l : List Int) (h m : Nat) (hh : h < 16) (c d : Bool) (acc : Int) (n : Nat) (hn : n ≤ 4) (x y z u v : Int) :
    spec_plain.j1 (k + 1) l (h : Int) (m : Int) c d acc (n : Int) x y z u v = some (plain1 l acc n h m d c (x, y, z, u, v, 0)) := by
  unfold spec_plain.j1 plain1; dsimp only
  by_cases hd : d = true
  · rw [if_pos hd, if_pos hd]
    by_cases ha : acc = 114
    · have e := value_is k (by omega) 12 0 1 n (by omega) hn l
      rw [show ((1 : Nat) : Int) = 1 from rfl] at e
      rw [if_pos ha, if_pos ha, e, Option.bind_some, eta6]
    · rw [if_neg ha, if_neg ha, bad_is, Option.bind_some, eta6]
  · obtain ⟨k, rfl⟩ : ∃ m, k = m + 1 := ⟨k - 1, by omega⟩
    rw [if_neg hd, if_neg hd]
    by_cases h9 : h = 9
    · rw [if_pos (by omega), plain2_is k (by omega) l h m hh, decide_eq_true h9, Bool.true_and]
    · rw [if_neg (by omega), plain2_is k (by omega) l h m hh, decide_eq_false h9, Bool.false_and]

def plain0 (l : List Int) (acc : Int) (n : Nat) (h m : Nat) (b c : Bool) (r : T6) : T6 :=
  if b = true then badS 1 else plain1 l acc n h m (decide (h = 8) && c) c r
theorem plain0_is (k : Nat) (hk : 7 ≤ k) (l : List Int) (h m : Nat) (hh : h < 16) (c b : Bool) (acc : Int) (n : Nat) (hn : n ≤ 4) (x y z u v : Int) :
    spec_plain.j0 (k + 1) l (h : Int) (m : Int) c b acc (n : Int) x y z u v = some (plain0 l acc n h m b c (x, y, z, u, v, 0)) := by
  unfold spec_plain.j0 plain0; dsimp only
  by_cases hb : b = true
  · rw [if_pos hb, if_pos hb, bad_is, Option.bind_some, eta6]
  · obtain ⟨k, rfl⟩ : ∃ m, k = m + 1 := ⟨k - 1, by omega⟩
    rw [if_neg hb, if_neg hb]
    by_cases h8 : h = 8
    · rw [if_pos (by omega), plain1_is k (by omega) l h m hh _ _ _ n hn, decide_eq_true h8, Bool.true_and]
    · rw [if_neg (by omega), plain1_is k (by omega) l h m hh _ _ _ n hn, decide_eq_false h8, Bool.false_and]

/-- A specifier without an index. -/
def plainS (l : List Int) (acc : Int) (n : Nat) : T6 :=
  let h := (rd l 0).toNat / 16
  let m := (rd l 0).toNat % 16
  if h < 4 then (if acc = 114 then (0, 0, -1, (((rd l 0).toNat % 64 : Nat) : Int), 1, 0) else badS 1)
  else plain0 l acc n h m (decide (h = 4) || (decide (h < 8) && decide (m = 15)) || (decide (h = 5) && decide (acc = 97))) (decide (m = 15)) ((h : Int), (m : Int), -1, 0, 1, 0)
theorem plain_is (k : Nat) (hk : 8 ≤ k) (l : List Int) (hl : ∀ x ∈ l, byt x) (h0 : 0 < l.length) (acc : Int) (n : Nat) (hn : n ≤ 4) :
    spec_plain.f k l acc (n : Int) = some (plainS l acc n) := by
  obtain ⟨k, rfl⟩ : ∃ m, k = m + 1 := ⟨k - 1, by omega⟩
  obtain ⟨b, hb, hb'⟩ : ∃ b : Nat, rd l 0 = (b : Int) ∧ b < 256 := ⟨(rd l 0).toNat, by have := rd_byt hl 0; unfold byt at this; omega, by have := rd_byt hl 0; unfold byt at this; omega⟩
  unfold spec_plain.f plainS
  have e1 : wrap64 ((rd l 0) / 16) = ((b / 16 : Nat) : Int) := by rw [hb, wrap64_in (by omega) (by omega)]; omega
  have e2 : wrap64 (Go.bits .and .u8 (rd l 0) 15) = ((b % 16 : Nat) : Int) := by rw [hb, u8_low b hb', wrap64_in (by omega) (by omega)]
  have e3 : Go.bits .and .u8 (rd l 0) 63 % 4294967296 = ((b % 64 : Nat) : Int) := by rw [hb, u8_six b hb']; omega
  rw [if_pos (by omega), e1, e2, e3, hb, show ((b : Int)).toNat = b from by omega]
  clear e1 e2 e3
  have hh : b / 16 < 16 := by omega
  have hm : b % 16 < 16 := by omega
  generalize hg : b / 16 = h at hh ⊢
  generalize hg' : b % 16 = m at hm ⊢
  dsimp only
  by_cases h4 : h < 4
  · rw [if_pos (by omega), if_pos h4]
    by_cases ha : acc = 114
    · rw [if_pos ha, if_pos ha]
    · rw [if_neg ha, if_neg ha, bad_is, Option.bind_some, eta6]
  · rw [if_neg (by omega), if_neg h4]
    have em : ((m : Int) == 15) = decide (m = 15) := by
      by_cases hm' : m = 15
      · rw [decide_eq_true hm']; exact beq_iff_eq.mpr (by omega)
      · rw [decide_eq_false hm']; exact beq_eq_false_iff_ne.mpr (by omega)
    have eh : h = 4 → ((h : Int) == 4) = true := fun q => beq_iff_eq.mpr (by omega)
    have ea : (acc == 97) = decide (acc = 97) := by
      by_cases hm' : acc = 97
      · rw [decide_eq_true hm']; exact beq_iff_eq.mpr hm'
      · rw [decide_eq_false hm']; exact beq_eq_false_iff_ne.mpr hm'
    rw [em, ea]
    by_cases q4 : h = 4
    · rw [if_pos (by omega), eh q4, plain0_is k (by omega) l h m hh _ _ _ n hn, decide_eq_true q4]
      rfl
    · rw [if_neg (by omega), decide_eq_false q4, Bool.false_or]
      by_cases q8 : h < 8
      · rw [if_pos (by omega), decide_eq_true q8, Bool.true_and]
        by_cases q15 : m = 15
        · rw [if_pos (by omega), plain0_is k (by omega) l h m hh _ _ _ n hn, decide_eq_true q15]
          rfl
        · rw [if_neg (by omega), decide_eq_false q15, Bool.false_or]
          by_cases q5 : h = 5
          · rw [if_pos (by omega), plain0_is k (by omega) l h m hh _ _ _ n hn, decide_eq_true q5, Bool.true_and]
          · rw [if_neg (by omega), plain0_is k (by omega) l h m hh _ _ _ n hn, decide_eq_false q5, Bool.false_and]
      · rw [if_neg (by omega), decide_eq_false q8, Bool.false_and, Bool.false_or]
        rw [if_neg (by omega), plain0_is k (by omega) l h m hh _ _ _ n hn, decide_eq_false (by omega : ¬ h = 5), Bool.false_and]

/-- A specifier behind an index byte. -/
def indexedS (l : List Int) (acc : Int) (n : Nat) : T6 :=
  if (rd l 0).toNat % 16 = 15 then badS 1 else if l.length < 2 then longS else if (rd l 1).toNat / 16 < 6 ∨ rd l 1 = 143 then badS 2 else
  let p := plainS (l.drop 1) acc n
  if p.2.2.2.2.2 = 0 then (if p.1 = 14 then (p.1, p.2.1, p.2.2.1, p.2.2.2.1, wrap64 (p.2.2.2.2.1 + 1), p.2.2.2.2.2) else (p.1, p.2.1, (((rd l 0).toNat % 16 : Nat) : Int), p.2.2.2.1, wrap64 (p.2.2.2.2.1 + 1), p.2.2.2.2.2)) else p
theorem indexed0_is (k : Nat) (hk : 8 ≤ k) (l : List Int) (hl : ∀ x ∈ l, byt x) (h0 : 2 ≤ l.length) (c : Bool) (acc : Int) (n : Nat) (hn : n ≤ 4) :
    spec_indexed.j0 (k + 1) l c acc (n : Int) = some (if c = true then badS 2 else
      let p := plainS (l.drop 1) acc n
      if p.2.2.2.2.2 = 0 then (if p.1 = 14 then (p.1, p.2.1, p.2.2.1, p.2.2.2.1, wrap64 (p.2.2.2.2.1 + 1), p.2.2.2.2.2) else (p.1, p.2.1, (((rd l 0).toNat % 16 : Nat) : Int), p.2.2.2.1, wrap64 (p.2.2.2.2.1 + 1), p.2.2.2.2.2)) else p) := by
  obtain ⟨b, hb, hb'⟩ : ∃ b : Nat, rd l 0 = (b : Int) ∧ b < 256 := ⟨(rd l 0).toNat, by have := rd_byt hl 0; unfold byt at this; omega, by have := rd_byt hl 0; unfold byt at this; omega⟩
  unfold spec_indexed.j0; dsimp only
  by_cases hc : c = true
  · rw [if_pos hc, if_pos hc, bad_is, Option.bind_some, eta6]
  · rw [if_neg hc, if_neg hc, if_pos (by omega), plain_is k hk (l.drop 1) (fun x hx => hl x (List.mem_of_mem_drop hx)) (by rw [List.length_drop]; omega) acc n hn, Option.bind_some]
    generalize plainS (l.drop 1) acc n = p
    by_cases he : p.2.2.2.2.2 = 0
    · rw [if_pos he, if_pos he]
      by_cases hk' : p.1 = 14
      · rw [if_pos hk', if_pos hk']
      · rw [if_neg hk', if_neg hk', if_pos (by omega), hb, u8_low b hb', wrap64_in (by omega) (by omega), show ((b : Int)).toNat = b from by omega]
    · rw [if_neg he, if_neg he, eta6]
theorem indexed_is (k : Nat) (hk : 9 ≤ k) (l : List Int) (hl : ∀ x ∈ l, byt x) (h0 : 0 < l.length) (acc : Int) (n : Nat) (hn : n ≤ 4) :
    spec_indexed.f k l acc (n : Int) = some (indexedS l acc n) := by
  obtain ⟨k, rfl⟩ : ∃ m, k = m + 1 := ⟨k - 1, by omega⟩
  obtain ⟨b, hb, hb'⟩ : ∃ b : Nat, rd l 0 = (b : Int) ∧ b < 256 := ⟨(rd l 0).toNat, by have := rd_byt hl 0; unfold byt at this; omega, by have := rd_byt hl 0; unfold byt at this; omega⟩
  obtain ⟨d, hd, hd'⟩ : ∃ b : Nat, rd l 1 = (b : Int) ∧ b < 256 := ⟨(rd l 1).toNat, by have := rd_byt hl 1; unfold byt at this; omega, by have := rd_byt hl 1; unfold byt at this; omega⟩
  unfold spec_indexed.f indexedS
  have e0 : (rd l 0).toNat = b := by omega
  have e1 : (rd l 1).toNat = d := by omega
  rw [if_pos (by omega)]
  have e2 : Go.bits .and .u8 (rd l 0) 15 = ((b % 16 : Nat) : Int) := by rw [hb, u8_low b hb']
  by_cases hm : b % 16 = 15
  · rw [e2, if_pos (by omega), e0, if_pos hm, bad_is, Option.bind_some, eta6]
  · rw [e2, if_neg (by omega), if_neg (by omega : ¬ (rd l 0).toNat % 16 = 15)]
    by_cases h2 : l.length < 2
    · rw [if_pos (by omega), if_pos h2]; rfl
    · rw [if_neg (by omega), if_neg h2, if_pos (by omega)]
      by_cases h6 : d / 16 < 6
      · rw [if_pos (by omega), indexed0_is k (by omega) l hl (by omega) _ acc n hn, if_pos rfl, if_pos (Or.inl (by omega))]
      · rw [if_neg (by omega), indexed0_is k (by omega) l hl (by omega) _ acc n hn]
        by_cases h143 : rd l 1 = 143
        · have q1 : (rd l 1).toNat / 16 < 6 ∨ rd l 1 = 143 := Or.inr h143
          have q2 : (rd l 1 == 143) = true := beq_iff_eq.mpr h143
          rw [if_pos q2, if_pos q1]
        · have q1 : ¬ ((rd l 1).toNat / 16 < 6 ∨ rd l 1 = 143) := fun q => q.elim (fun q => h6 (by omega)) h143
          have q2 : ¬ ((rd l 1 == 143) = true) := fun q => h143 (beq_iff_eq.mp q)
          rw [if_neg q2, if_neg q1]

theorem index_l0 (l : List Int) (hl : l.length ≤ 100) (a : Int) (d : Nat) : ∀ (k i : Nat), i + d = l.length → d < k → ∃ v, slices_Index_byte_byte.l0 k l a (l.length : Int) (i : Int) = some v ∧ (v ≥ 0 ↔ a ∈ l.drop i) := by
  induction d with
  | zero =>
    intro k i hi hk
    obtain ⟨k, rfl⟩ : ∃ m, k = m + 1 := ⟨k - 1, by omega⟩
    refine ⟨-1, by unfold slices_Index_byte_byte.l0; rw [if_neg (by omega)], ?_⟩
    rw [List.drop_eq_nil_of_le (by omega)]
    exact ⟨fun h => absurd h (by decide), fun h => absurd h (by simp)⟩
  | succ d ih =>
    intro k i hi hk
    obtain ⟨k, rfl⟩ : ∃ m, k = m + 1 := ⟨k - 1, by omega⟩
    unfold slices_Index_byte_byte.l0
    rw [if_pos (by omega), if_pos (by omega), if_pos (by omega)]
    have hi' : i < l.length := by omega
    have er : rd l (i : Int) = l[i] := by
      unfold rd; rw [Int.toNat_natCast, List.getD_eq_getElem?_getD, List.getElem?_eq_getElem hi']; rfl
    rw [List.drop_eq_getElem_cons hi', er]
    by_cases ha : a = l[i]
    · exact ⟨i, by rw [if_pos ha], fun _ => by rw [ha]; exact List.mem_cons_self, fun _ => by omega⟩
    · obtain ⟨v, hv, hv'⟩ := ih k (i + 1) (by omega) (by omega)
      refine ⟨v, ?_, ?_⟩
      · rw [if_neg ha, wrap64_in (n := (i : Int) + 1) (by omega) (by omega), show ((i : Int) + 1) = ((i + 1 : Nat) : Int) from by omega, hv]
      · rw [hv', List.mem_cons]
        exact ⟨fun h => Or.inr h, fun h => h.resolve_left ha⟩
theorem contains_is (k : Nat) (l : List Int) (hl : l.length ≤ 100) (hk : l.length < k) (a : Int) : slices_Contains_byte_byte.f k l a = some (decide (a ∈ l)) := by
  obtain ⟨v, hv, hv'⟩ := index_l0 l hl a l.length k 0 (by omega) (by omega)
  unfold slices_Contains_byte_byte.f
  rw [show slices_Index_byte_byte.f k l a = some v from hv, Option.bind_some]
  exact congrArg some (decide_eq_decide.mpr (hv'.trans (by rw [List.drop_zero])))

/-- What Decode answers. -/
def decodeS (l : List Int) (acc : Int) (n : Nat) : T6 :=
  if acc ∉ ([114, 119, 109, 97, 118, 98] : List Int) then (0, 0, 0, 0, 0, 1) else if acc = 98 then valS 12 0 0 n l else if l.length = 0 then longS else
  if (rd l 0).toNat / 16 = 4 then indexedS l acc n else plainS l acc n
theorem decode_is (k : Nat) (hk : 10 ≤ k) (l : List Int) (hl : ∀ x ∈ l, byt x) (acc : Int) (n : Nat) (hn : n = 1 ∨ n = 2 ∨ n = 4) :
    spec_Decode.f k l acc (n : Int) = some (decodeS l acc n) := by
  obtain ⟨k, rfl⟩ : ∃ m, k = m + 1 := ⟨k - 1, by omega⟩
  obtain ⟨b, hb, hb'⟩ : ∃ b : Nat, rd l 0 = (b : Int) ∧ b < 256 := ⟨(rd l 0).toNat, by have := rd_byt hl 0; unfold byt at this; omega, by have := rd_byt hl 0; unfold byt at this; omega⟩
  obtain ⟨m, hm, hm0⟩ : ∃ m, bits_Mask.f (n : Int) = some m ∧ m ≠ 0 := by
    rcases hn with rfl | rfl | rfl
    · exact ⟨255, rfl, by decide⟩
    · exact ⟨65535, rfl, by decide⟩
    · exact ⟨4294967295, rfl, by decide⟩
  have hn4 : n ≤ 4 := by omega
  unfold spec_Decode.f
  rw [hm, Option.bind_some, if_neg hm0, contains_is (k + 1) _ (by decide) (by show 6 < k + 1; omega) acc, Option.bind_some]
  unfold decodeS spec_Decode.j0; dsimp only
  by_cases hc : acc ∈ ([114, 119, 109, 97, 118, 98] : List Int)
  · have hcc : ¬ (acc ∉ ([114, 119, 109, 97, 118, 98] : List Int)) := fun q => q hc
    rw [decide_eq_true hc, if_neg (by decide), if_neg hcc]
    by_cases h98 : acc = 98
    · have e := value_is k (by omega) 12 0 0 n (by omega) hn4 l
      rw [show ((0 : Nat) : Int) = 0 from rfl] at e
      rw [if_pos h98, if_pos h98, e, Option.bind_some, eta6]
    · rw [if_neg h98, if_neg h98]
      by_cases h0 : l.length = 0
      · rw [if_pos (by omega), if_pos h0]; rfl
      · rw [if_neg (by omega), if_neg h0, if_pos (by omega)]
        by_cases h4 : b / 16 = 4
        · rw [if_pos (by omega), if_pos (by omega), indexed_is k (by omega) l hl (by omega) acc n hn4, Option.bind_some, eta6]
        · rw [if_neg (by omega), if_neg (by omega), plain_is k (by omega) l hl (by omega) acc n hn4, Option.bind_some, eta6]
  · have hcc : acc ∉ ([114, 119, 109, 97, 118, 98] : List Int) := hc
    rw [decide_eq_false hc, if_pos (by decide), if_pos hcc]

theorem alive_val : decodeS [66, 165, 254] 114 4 = (10, 5, 2, 4294967294, 3, 0) := by decide +kernel
theorem alive_is (k : Nat) (hk : 10 ≤ k) : camshaftlaw11_alive.f k = some true := by
  have d := decode_is k hk [66, 165, 254] (by unfold byt; decide) 114 4 (by decide)
  rw [show ((4 : Nat) : Int) = 4 from rfl, alive_val] at d
  unfold camshaftlaw11_alive.f
  rw [d]; rfl

theorem rd_drop1 (l : List Int) : rd (l.drop 1) 0 = rd l 1 := by
  cases l with
  | nil => rfl
  | cons a l => cases l <;> rfl

theorem plain_sizes (l : List Int) (h : rd l 0 ≠ 143) (hb : byt (rd l 0)) (acc : Int) (n n' : Nat) : plainS l acc n = plainS l acc n' := by
  have hb0 := hb; unfold byt at hb0
  unfold plainS plain0 plain1
  dsimp only
  have e : (decide ((rd l 0).toNat / 16 = 8) && decide ((rd l 0).toNat % 16 = 15)) = false := by
    rw [Bool.and_eq_false_iff, decide_eq_false_iff_not, decide_eq_false_iff_not]
    omega
  have nf : ¬ (false = true) := by decide
  rw [e, if_neg nf, if_neg nf]
theorem indexed_sizes (l : List Int) (hl : ∀ x ∈ l, byt x) (acc : Int) (n n' : Nat) : indexedS l acc n = indexedS l acc n' := by
  unfold indexedS
  by_cases h1 : (rd l 0).toNat % 16 = 15
  · rw [if_pos h1, if_pos h1]
  · rw [if_neg h1, if_neg h1]
    by_cases h2 : l.length < 2
    · rw [if_pos h2, if_pos h2]
    · rw [if_neg h2, if_neg h2]
      by_cases h3 : (rd l 1).toNat / 16 < 6 ∨ rd l 1 = 143
      · rw [if_pos h3, if_pos h3]
      · rw [if_neg h3, if_neg h3, plain_sizes (l.drop 1) (by rw [rd_drop1]; exact fun q => h3 (Or.inr q)) (by rw [rd_drop1]; exact rd_byt hl 1) acc n n']
theorem decode_sizes (l : List Int) (hl : ∀ x ∈ l, byt x) (h : rd l 0 ≠ 143) (acc : Int) (ha : acc ≠ 98) (n n' : Nat) : decodeS l acc n = decodeS l acc n' := by
  unfold decodeS
  by_cases h1 : acc ∉ ([114, 119, 109, 97, 118, 98] : List Int)
  · rw [if_pos h1, if_pos h1]
  · rw [if_neg h1, if_neg h1, if_neg ha, if_neg ha, indexed_sizes l hl acc n n', plain_sizes l h (rd_byt hl 0) acc n n']

theorem sizes0 (l : List Int) (hl : ∀ x ∈ l, byt x) (acc : Int) (c : Bool) (h : c = false → rd l 0 ≠ 143 ∧ acc ≠ 98) : camshaftlaw11_SpecSizes.j0 16 l acc c = some true := by
  unfold camshaftlaw11_SpecSizes.j0; dsimp only
  cases c with
  | true => rw [if_pos rfl]
  | false =>
    obtain ⟨h1, h2⟩ := h rfl
    have d1 := decode_is 15 (by decide) l hl acc 1 (by decide)
    have d2 := decode_is 15 (by decide) l hl acc 2 (by decide)
    have d4 := decode_is 15 (by decide) l hl acc 4 (by decide)
    rw [decode_sizes l hl h1 acc h2 2 1] at d2
    rw [decode_sizes l hl h1 acc h2 4 1] at d4
    rw [show ((1 : Nat) : Int) = 1 from rfl] at d1
    rw [show ((2 : Nat) : Int) = 2 from rfl] at d2
    rw [show ((4 : Nat) : Int) = 4 from rfl] at d4
    rw [if_neg (by decide), d1, d2, d4, Option.bind_some, Option.bind_some, Option.bind_some]
    generalize decodeS l acc 1 = p
    simp only [beq_self_eq_true, Bool.and_self, if_true]

theorem SpecSizes : camshaftlaw11_SpecSizes.Pure := by
  intro l a _ _ hw _
  have hl : ∀ x ∈ l, byt x := fun x hx => by obtain ⟨n, rfl, hn⟩ := u8_nat (hw x hx); unfold byt; omega
  refine ⟨16, ?_⟩
  unfold camshaftlaw11_SpecSizes.f
  rw [alive_is 16 (by decide), Option.bind_some, if_pos rfl]
  by_cases h1 : (l.length : Int) > 256
  · rw [if_pos h1]; exact sizes0 l hl a true (fun h => absurd h (by decide))
  · rw [if_neg h1]
    by_cases h2 : (l.length : Int) = 0
    · rw [if_pos h2]; exact sizes0 l hl a true (fun h => absurd h (by decide))
    · rw [if_neg h2, if_pos (by omega)]
      by_cases h3 : rd l 0 = 143
      · rw [if_pos h3]; exact sizes0 l hl a true (fun h => absurd h (by decide))
      · rw [if_neg h3]; exact sizes0 l hl a _ (fun h => ⟨h3, fun q => by rw [q] at h; exact absurd h (by decide)⟩)

end Go.Proofs.Ytbgcbnlpjjhmhaa.Pure
