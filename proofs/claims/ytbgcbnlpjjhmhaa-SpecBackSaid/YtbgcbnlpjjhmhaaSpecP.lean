/- SpecBack: decoding and encoding in plain words. -/
import Derived.Test.YtbgcbnlpjjhmhaaSpecN
namespace Go.Proofs.Ytbgcbnlpjjhmhaa.SpecWalk
open Go.RowKit Go.Proofs.Ytbgcbnlpjjhmhaa.Aid
set_option linter.unusedVariables false
set_option linter.unusedSimpArgs false
/-- (kind, register, index, value, bytes, error). -/
abbrev T6D := Int × Int × Int × Int × Int × Int
def longD : T6D := (0, 0, 0, 0, 0, 3)
def badD (n : Int) : T6D := (14, 0, -1, 0, n, 0)
def valD (kind reg : Int) (a n : Nat) (l : List Int) : T6D := if l.length < a + n then longD else (kind, reg, -1, ((extD (leD ((l.take (a + n)).drop a)).toNat n : Nat) : Int), ((a + n : Nat) : Int), 0)
/-- A specifier without an index, out of its first byte. -/
def plainD (b : Nat) (l : List Int) (acc : Int) (n : Nat) : T6D :=
  if b / 16 < 4 then (if acc = 114 then (0, 0, -1, ((b % 64 : Nat) : Int), 1, 0) else badD 1)
  else if b / 16 = 4 ∨ (b / 16 < 8 ∧ b % 16 = 15) ∨ (b / 16 = 5 ∧ acc = 97) then badD 1
  else if b / 16 = 8 ∧ b % 16 = 15 then (if acc = 114 then valD 12 0 1 n l else badD 1)
  else if b / 16 = 9 ∧ b % 16 = 15 then valD 13 0 1 4 l
  else if b / 16 < 10 then (((b / 16 : Nat) : Int), ((b % 16 : Nat) : Int), -1, 0, 1, 0)
  else valD ((10 + b / 16 % 2 : Nat) : Int) ((b % 16 : Nat) : Int) 1 (2 ^ ((b / 16 - 10) / 2)) l
def firstD (kd reg val : Int) (n : Nat) : Option (List Int) :=
  if kd = 0 then (if val < 64 then some [val] else none)
  else if 5 ≤ kd ∧ kd ≤ 9 then some [kd * 16 + reg]
  else if kd = 10 ∨ kd = 11 then
    (if ((extD val.toNat 1 : Nat) : Int) = val then some ((kd * 16 + reg) :: putS val 1) else if ((extD val.toNat 2 : Nat) : Int) = val then some (((kd + 2) * 16 + reg) :: putS val 2) else some (((kd + 4) * 16 + reg) :: putS val 4))
  else if kd = 12 then some (143 :: putS val n)
  else if kd = 13 then some (159 :: putS val 4)
  else none
theorem valD_put (kind reg : Int) (n : Nat) (hn : Sz n) (c0 val : Int) (h0 : 0 ≤ val) (h1 : val < 4294967296) (he : ((extD val.toNat n : Nat) : Int) = val) (b : List Int) :
    valD kind reg 1 n (c0 :: (putS val n ++ b)) = (kind, reg, -1, val, ((1 + n : Nat) : Int), 0) := by
  unfold valD
  have hl : (putS val n).length = n := putS_length val n
  rw [if_neg (by rw [List.length_cons, List.length_append, hl]; omega)]
  have e : ((c0 :: (putS val n ++ b)).take (1 + n)).drop 1 = putS val n := by
    rw [show 1 + n = n + 1 from by omega, List.take_succ_cons, List.drop_succ_cons, List.drop_zero, List.take_append_of_le_length (by omega), List.take_of_length_le (by omega)]
  rw [e, leD_put val h0 n hn]
  obtain ⟨v, rfl⟩ : ∃ v : Nat, val = v := ⟨val.toNat, by omega⟩
  rw [show ((v : Int) % ((256 ^ n : Nat) : Int)).toNat = v % 256 ^ n from by rw [← Int.natCast_emod, Int.toNat_natCast], extD_mod v n hn]
  rw [Int.toNat_natCast] at he
  rw [he]
/-- What licence Same gives. -/
def Lic (kd reg val reg' val' : Int) : Prop := (reg' = reg ∨ kd = 0 ∨ kd = 12 ∨ kd = 13) ∧ (val' = val ∨ (5 ≤ kd ∧ kd ≤ 9))
/-- What first lays is read as it was, whatever stands behind, if it is read at all. -/
theorem first_back (kd reg val : Int) (n : Nat) (hn : Sz n) (acc : Int) (r0 : 0 ≤ reg) (r1 : reg ≤ 15) (v0 : 0 ≤ val) (v1 : val < 4294967296) (c : List Int) (h : firstD kd reg val n = some c) :
    ∃ (c0 : Nat) (t : List Int), c = (c0 : Int) :: t ∧ c0 < 256 ∧ ((plainD c0 c acc n).2.2.2.2.2 = 0 → (plainD c0 c acc n).1 = kd → (kd = 12 → ((extD val.toNat n : Nat) : Int) = val) → ∀ b, ∃ reg' val', plainD c0 (c ++ b) acc n = (kd, reg', -1, val', (c.length : Int), 0) ∧ Lic kd reg val reg' val') := by
  obtain ⟨r, rfl⟩ : ∃ r : Nat, reg = r := ⟨reg.toNat, by omega⟩
  unfold firstD at h
  by_cases k0 : kd = 0
  · subst k0
    rw [if_pos rfl] at h
    by_cases hv : val < 64
    · rw [if_pos hv] at h
      obtain ⟨v, rfl⟩ : ∃ v : Nat, val = v := ⟨val.toNat, by omega⟩
      simp only [Option.some.injEq] at h
      subst h
      refine ⟨v, [], rfl, by omega, fun he hk _ b => ?_⟩
      unfold plainD at he hk ⊢
      rw [if_pos (by omega)] at he hk ⊢
      by_cases ha : acc = 114
      · rw [if_pos ha]
        refine ⟨0, v, ?_, .inr (.inl rfl), .inl rfl⟩
        rw [show v % 64 = v from by omega]
        rfl
      · rw [if_neg ha] at hk
        exact absurd hk (by decide)
    · rw [if_neg hv] at h
      cases h
  rw [if_neg k0] at h
  by_cases k5 : 5 ≤ kd ∧ kd ≤ 9
  · rw [if_pos k5] at h
    obtain ⟨k, rfl⟩ : ∃ k : Nat, kd = k := ⟨kd.toNat, by omega⟩
    simp only [Option.some.injEq] at h
    subst h
    refine ⟨k * 16 + r, [], by simp, by omega, fun he hk _ b => ?_⟩
    have e1 : (k * 16 + r) / 16 = k := by omega
    have e2 : (k * 16 + r) % 16 = r := by omega
    unfold plainD at he hk ⊢
    simp only [e1, e2] at he hk ⊢
    rw [if_neg (by omega)] at he hk ⊢
    by_cases q1 : k = 4 ∨ (k < 8 ∧ r = 15) ∨ (k = 5 ∧ acc = 97)
    · rw [if_pos q1] at hk
      exact absurd hk (by unfold badD; simp only; omega)
    rw [if_neg q1] at he hk ⊢
    by_cases q2 : k = 8 ∧ r = 15
    · rw [if_pos q2] at he hk
      by_cases ha : acc = 114
      · rw [if_pos ha] at he
        unfold valD at he
        rw [if_pos (by rcases hn with rfl | rfl | rfl <;> simp)] at he
        exact absurd he (by decide)
      · rw [if_neg ha] at hk
        exact absurd hk (by unfold badD; simp only; omega)
    rw [if_neg q2] at he hk ⊢
    by_cases q3 : k = 9 ∧ r = 15
    · rw [if_pos q3] at he
      unfold valD at he
      rw [if_pos (by simp)] at he
      exact absurd he (by decide)
    rw [if_neg q3] at he hk ⊢
    rw [if_pos (by omega)]
    exact ⟨r, 0, rfl, .inl rfl, .inr k5⟩
  rw [if_neg k5] at h
  by_cases k10 : kd = 10 ∨ kd = 11
  · rw [if_pos k10] at h
    obtain ⟨k, rfl⟩ : ∃ k : Nat, kd = k := ⟨kd.toNat, by omega⟩
    have near : ∀ (i m : Nat), (i = 0 ∧ m = 1) ∨ (i = 1 ∧ m = 2) ∨ (i = 2 ∧ m = 4) → ((extD val.toNat m : Nat) : Int) = val → c = (((k + 2 * i) * 16 + r : Nat) : Int) :: putS val m →
        ∃ (c0 : Nat) (t : List Int), c = (c0 : Int) :: t ∧ c0 < 256 ∧ ((plainD c0 c acc n).2.2.2.2.2 = 0 → (plainD c0 c acc n).1 = (k : Int) → ((k : Int) = 12 → ((extD val.toNat n : Nat) : Int) = val) → ∀ b, ∃ reg' val', plainD c0 (c ++ b) acc n = ((k : Int), reg', -1, val', (c.length : Int), 0) ∧ Lic k r val reg' val') := by
      intro i m him hx hc
      refine ⟨(k + 2 * i) * 16 + r, putS val m, hc, by omega, fun he hk _ b => ?_⟩
      have e1 : ((k + 2 * i) * 16 + r) / 16 = k + 2 * i := by omega
      have e2 : ((k + 2 * i) * 16 + r) % 16 = r := by omega
      have e3 : 2 ^ ((k + 2 * i - 10) / 2) = m := by
        rw [show (k + 2 * i - 10) / 2 = i from by omega]
        rcases him with ⟨rfl, rfl⟩ | ⟨rfl, rfl⟩ | ⟨rfl, rfl⟩ <;> rfl
      have e4 : 10 + (k + 2 * i) % 2 = k := by omega
      have hm : Sz m := by rcases him with ⟨_, rfl⟩ | ⟨_, rfl⟩ | ⟨_, rfl⟩ <;> simp [Sz]
      unfold plainD
      simp only [e1, e2, e3, e4]
      rw [if_neg (by omega), if_neg (by omega), if_neg (by omega), if_neg (by omega), if_neg (by omega), hc, List.cons_append, valD_put (k : Int) (r : Int) m hm _ val v0 v1 hx b]
      refine ⟨r, val, ?_, .inl rfl, .inl rfl⟩
      rw [List.length_cons, putS_length, Nat.add_comm]
    by_cases h1 : ((extD val.toNat 1 : Nat) : Int) = val
    · rw [if_pos h1] at h
      exact near 0 1 (.inl ⟨rfl, rfl⟩) h1 (by simp only [Option.some.injEq] at h; rw [← h]; simp)
    rw [if_neg h1] at h
    by_cases h2 : ((extD val.toNat 2 : Nat) : Int) = val
    · rw [if_pos h2] at h
      exact near 1 2 (.inr (.inl ⟨rfl, rfl⟩)) h2 (by simp only [Option.some.injEq] at h; rw [← h]; simp)
    rw [if_neg h2] at h
    exact near 2 4 (.inr (.inr ⟨rfl, rfl⟩)) (by rw [extD_four _ (by omega)]; omega) (by simp only [Option.some.injEq] at h; rw [← h]; simp)
  rw [if_neg k10] at h
  by_cases k12 : kd = 12
  · subst k12
    rw [if_pos rfl] at h
    simp only [Option.some.injEq] at h
    subst h
    refine ⟨143, putS val n, rfl, by omega, fun he hk hx b => ?_⟩
    unfold plainD at hk ⊢
    rw [if_neg (by decide), if_neg (by omega), if_pos (by decide)] at hk ⊢
    by_cases ha : acc = 114
    · rw [if_pos ha, List.cons_append, valD_put 12 0 n hn 143 val v0 v1 (hx rfl) b]
      refine ⟨0, val, ?_, .inr (.inr (.inl rfl)), .inl rfl⟩
      rw [List.length_cons, putS_length, Nat.add_comm]
    · rw [if_neg ha] at hk
      exact absurd hk (by decide)
  rw [if_neg k12] at h
  by_cases k13 : kd = 13
  · subst k13
    rw [if_pos rfl] at h
    simp only [Option.some.injEq] at h
    subst h
    refine ⟨159, putS val 4, rfl, by omega, fun he hk hx b => ?_⟩
    unfold plainD
    rw [if_neg (by decide), if_neg (by omega), if_neg (by decide), if_pos (by decide), List.cons_append, valD_put 13 0 4 (.inr (.inr rfl)) 159 val v0 v1 (by rw [extD_four _ (by omega)]; omega) b]
    refine ⟨0, val, ?_, .inr (.inr (.inr rfl)), .inl rfl⟩
    rw [List.length_cons, putS_length]
  rw [if_neg k13] at h
  cases h
theorem first_not4 (kd reg val : Int) (n : Nat) (r0 : 0 ≤ reg) (r1 : reg ≤ 15) (c : List Int) (h : firstD kd reg val n = some c) (c0 : Nat) (t : List Int) (hc : c = (c0 : Int) :: t) (h4 : c0 / 16 = 4) : False := by
  unfold firstD at h
  split at h
  · split at h
    · rename_i hv
      simp only [Option.some.injEq] at h
      rw [← h] at hc
      simp only [List.cons.injEq] at hc
      omega
    · cases h
  split at h
  · simp only [Option.some.injEq] at h
    rw [← h] at hc
    simp only [List.cons.injEq] at hc
    omega
  split at h
  · split at h
    · simp only [Option.some.injEq] at h
      rw [← h] at hc
      simp only [List.cons.injEq] at hc
      omega
    · split at h
      · simp only [Option.some.injEq] at h
        rw [← h] at hc
        simp only [List.cons.injEq] at hc
        omega
      · simp only [Option.some.injEq] at h
        rw [← h] at hc
        simp only [List.cons.injEq] at hc
        omega
  split at h
  · simp only [Option.some.injEq] at h
    rw [← h] at hc
    simp only [List.cons.injEq] at hc
    omega
  split at h
  · simp only [Option.some.injEq] at h
    rw [← h] at hc
    simp only [List.cons.injEq] at hc
    omega
  cases h
/-- A specifier with an index. -/
def idxD (i : Int) (p : T6D) : T6D := if p.2.2.2.2.2 = 0 then (if p.1 = 14 then (p.1, p.2.1, p.2.2.1, p.2.2.2.1, p.2.2.2.2.1 + 1, 0) else (p.1, p.2.1, i, p.2.2.2.1, p.2.2.2.2.1 + 1, 0)) else p
def indexD (b0 : Nat) (t : List Int) (acc : Int) (n : Nat) : T6D :=
  if b0 % 16 = 15 then badD 1 else if t.length = 0 then longD else
  if (t.getD 0 0).toNat / 16 < 6 ∨ t.getD 0 0 = 143 then badD 2 else idxD ((b0 % 16 : Nat) : Int) (plainD (t.getD 0 0).toNat t acc n)
def decD (l : List Int) (acc : Int) (n : Nat) : T6D :=
  if acc ∉ ([114, 119, 109, 97, 118, 98] : List Int) then (0, 0, 0, 0, 0, 1) else if acc = 98 then valD 12 0 0 n l else if l.length = 0 then longD else
  if (l.getD 0 0).toNat / 16 = 4 then indexD (l.getD 0 0).toNat (l.drop 1) acc n else plainD (l.getD 0 0).toNat l acc n
/-- What Encode answers; none: an error. -/
def encD (kd reg idx val : Int) (n : Nat) (acc : Int) : Option (List Int) :=
  if acc = 98 then (if kd = 12 ∧ idx < 0 ∧ 0 ≤ reg ∧ reg ≤ 15 ∧ ((extD val.toNat n : Nat) : Int) = val then some (putS val n) else none)
  else if reg < 0 ∨ 15 < reg ∨ 15 < idx then none else
  match firstD kd reg val n with
  | none => none
  | some b =>
    let c := if 0 ≤ idx then (64 + idx) :: b else b
    if (decD c acc n).2.2.2.2.2 = 0 ∧ (decD c acc n).1 = kd ∧ (kd = 12 → ((extD val.toNat n : Nat) : Int) = val) then some c else none
theorem valD_put0 (n : Nat) (hn : Sz n) (val : Int) (h0 : 0 ≤ val) (h1 : val < 4294967296) (he : ((extD val.toNat n : Nat) : Int) = val) (b : List Int) :
    valD 12 0 0 n (putS val n ++ b) = (12, 0, -1, val, (n : Int), 0) := by
  have hl : (putS val n).length = n := putS_length val n
  unfold valD
  rw [if_neg (by rw [List.length_append, hl]; omega), Nat.zero_add, List.drop_zero, List.take_append_of_le_length (by omega), List.take_of_length_le (by omega), leD_put val h0 n hn]
  obtain ⟨v, rfl⟩ : ∃ v : Nat, val = v := ⟨val.toNat, by omega⟩
  rw [show ((v : Int) % ((256 ^ n : Nat) : Int)).toNat = v % 256 ^ n from by rw [← Int.natCast_emod, Int.toNat_natCast], extD_mod v n hn]
  rw [Int.toNat_natCast] at he
  rw [he]
/-- What is encoded is decoded, whatever stands behind. -/
theorem enc_back (kd reg idx val : Int) (n : Nat) (hn : Sz n) (acc : Int) (v0 : 0 ≤ val) (v1 : val < 4294967296) (c : List Int) (h : encD kd reg idx val n acc = some c) (b : List Int) :
    ∃ reg' val', decD (c ++ b) acc n = (kd, reg', (if idx < 0 then -1 else idx), val', (c.length : Int), 0) ∧ Lic kd reg val reg' val' := by
  unfold encD at h
  by_cases ha : acc = 98
  · rw [if_pos ha] at h
    split at h
    · rename_i q
      obtain ⟨rfl, q1, q2, q3, q4⟩ := q
      simp only [Option.some.injEq] at h
      subst h
      unfold decD
      rw [if_neg (by rw [ha]; decide), if_pos ha, valD_put0 n hn val v0 v1 q4 b, if_pos q1, putS_length]
      exact ⟨0, val, rfl, .inr (.inr (.inl rfl)), .inl rfl⟩
    · cases h
  rw [if_neg ha] at h
  by_cases hr : reg < 0 ∨ 15 < reg ∨ 15 < idx
  · rw [if_pos hr] at h; cases h
  rw [if_neg hr] at h
  cases hf : firstD kd reg val n with
  | none => rw [hf] at h; cases h
  | some d =>
    rw [hf] at h
    simp only at h
    obtain ⟨c0, t, hd, hc0, back⟩ := first_back kd reg val n hn acc (by omega) (by omega) v0 v1 d hf
    by_cases hi : 0 ≤ idx
    · rw [if_pos hi] at h
      split at h
      · rename_i q
        simp only [Option.some.injEq] at h
        subst h
        obtain ⟨i, rfl⟩ : ∃ i : Nat, idx = i := ⟨idx.toNat, by omega⟩
        have e1 : ((64 : Int) + i).toNat / 16 = 4 := by omega
        have e2 : ((64 : Int) + i).toNat % 16 = i := by omega
        have hgd : ∀ z : List Int, (d ++ z).getD 0 0 = (c0 : Int) := fun z => by rw [hd]; rfl
        have hgd0 : d.getD 0 0 = (c0 : Int) := by rw [hd]; rfl
        have hln : ∀ z : List Int, ¬ (d ++ z).length = 0 := fun z => by rw [hd]; simp
        have hln0 : ¬ d.length = 0 := by rw [hd]; simp
        unfold decD at q ⊢
        by_cases hacc : acc ∉ ([114, 119, 109, 97, 118, 98] : List Int)
        · rw [if_pos hacc] at q
          exact absurd q.1 (by decide)
        rw [if_neg hacc, if_neg ha] at q ⊢
        rw [List.cons_append]
        rw [if_neg (by simp)] at q ⊢
        simp only [List.getD_cons_zero, List.drop_succ_cons, List.drop_zero] at q ⊢
        rw [if_pos e1] at q ⊢
        unfold indexD at q ⊢
        rw [e2] at q ⊢
        by_cases h15 : i = 15
        · rw [if_pos h15] at q ⊢
          have hk : (14 : Int) = kd := q.2.1
          exfalso
          subst hk
          unfold firstD at hf
          simp at hf
        rw [if_neg h15, if_neg hln0, hgd0, Int.toNat_natCast] at q
        rw [if_neg h15, if_neg (hln b), hgd b, Int.toNat_natCast]
        by_cases h6 : c0 / 16 < 6 ∨ (c0 : Int) = 143
        · rw [if_pos h6] at q
          have hk : (14 : Int) = kd := q.2.1
          exfalso
          subst hk
          unfold firstD at hf
          simp at hf
        rw [if_neg h6] at q ⊢
        unfold idxD at q
        by_cases hz : (plainD c0 d acc n).2.2.2.2.2 = 0
        · rw [if_pos hz] at q
          have hkd : (plainD c0 d acc n).1 = kd := by
            by_cases h14 : (plainD c0 d acc n).1 = 14
            · rw [if_pos h14] at q; exact q.2.1
            · rw [if_neg h14] at q; exact q.2.1
          obtain ⟨reg', val', hp, lic⟩ := back hz hkd q.2.2 b
          refine ⟨reg', val', ?_, lic⟩
          have h14 : ¬ kd = 14 := fun hk => by
            subst hk
            unfold firstD at hf
            simp at hf
          unfold idxD
          rw [hp, if_pos rfl, if_neg h14, if_neg (by omega), List.length_cons]
          simp
        · rw [if_neg hz] at q
          exact absurd q.1 hz
      · cases h
    · rw [if_neg hi] at h
      split at h
      · rename_i q
        simp only [Option.some.injEq] at h
        subst h
        have hgd : ∀ z : List Int, (d ++ z).getD 0 0 = (c0 : Int) := fun z => by rw [hd]; rfl
        have hgd0 : d.getD 0 0 = (c0 : Int) := by rw [hd]; rfl
        have hln : ∀ z : List Int, ¬ (d ++ z).length = 0 := fun z => by rw [hd]; simp
        have hln0 : ¬ d.length = 0 := by rw [hd]; simp
        unfold decD at q ⊢
        by_cases hacc : acc ∉ ([114, 119, 109, 97, 118, 98] : List Int)
        · rw [if_pos hacc] at q
          exact absurd q.1 (by decide)
        rw [if_neg hacc, if_neg ha, if_neg hln0, hgd0, Int.toNat_natCast] at q
        rw [if_neg hacc, if_neg ha, if_neg (hln b), hgd b, Int.toNat_natCast]
        by_cases h4 : c0 / 16 = 4
        · exfalso
          have hb : (plainD c0 d acc n).1 = 14 := by
            unfold plainD
            rw [if_neg (by omega), if_pos (.inl h4)]
            rfl
          exact first_not4 kd reg val n (by omega) (by omega) d hf c0 t hd h4
        rw [if_neg h4] at q ⊢
        obtain ⟨reg', val', hp, lic⟩ := back q.1 q.2.1 q.2.2 b
        exact ⟨reg', val', by rw [hp, if_pos (by omega)], lic⟩
      · cases h
end Go.Proofs.Ytbgcbnlpjjhmhaa.SpecWalk
