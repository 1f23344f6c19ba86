/- SpecBack: what is decoded can be encoded, in no more bytes; plain. -/
import Derived.Test.YtbgcbnlpjjhmhaaSpecP
namespace Go.Proofs.Ytbgcbnlpjjhmhaa.SpecWalk
open Go.RowKit Go.Proofs.Ytbgcbnlpjjhmhaa.Aid
set_option linter.unusedVariables false
set_option linter.unusedSimpArgs false
/-- What a plain specifier that is read gives back. -/
structure Again (p : T6D) (c0 : Nat) (acc : Int) (n : Nat) : Prop where
  idx : p.2.2.1 = -1
  reg : 0 ≤ p.2.1 ∧ p.2.1 ≤ 15
  val : 0 ≤ p.2.2.2.1 ∧ p.2.2.2.1 < 4294967296
  again : ∃ (d0 : Nat) (t : List Int), firstD p.1 p.2.1 p.2.2.2.1 n = some ((d0 : Int) :: t) ∧ ((((d0 : Int) :: t).length : Nat) : Int) ≤ p.2.2.2.2.1 ∧ d0 < 256 ∧ (6 ≤ c0 / 16 → c0 ≠ 143 → 6 ≤ d0 / 16 ∧ d0 ≠ 143) ∧
    (p.1 = 12 → ((extD p.2.2.2.1.toNat n : Nat) : Int) = p.2.2.2.1) ∧ (plainD d0 ((d0 : Int) :: t) acc n).2.2.2.2.2 = 0 ∧ (plainD d0 ((d0 : Int) :: t) acc n).1 = p.1
theorem valD_ok {kind reg : Int} {a n : Nat} {l : List Int} (h : (valD kind reg a n l).2.2.2.2.2 = 0) : ∃ x : Nat, valD kind reg a n l = (kind, reg, -1, ((extD x n : Nat) : Int), ((a + n : Nat) : Int), 0) := by
  unfold valD at h ⊢
  split at h
  · exact absurd h (by decide)
  · rename_i q
    rw [if_neg q]
    exact ⟨_, rfl⟩
theorem plain_again (c0 : Nat) (hc : c0 < 256) (l : List Int) (n : Nat) (hn : Sz n) (acc : Int) (he : (plainD c0 l acc n).2.2.2.2.2 = 0) (hk : (plainD c0 l acc n).1 ≠ 14) : Again (plainD c0 l acc n) c0 acc n := by
  by_cases h4 : c0 / 16 < 4
  · by_cases ha : acc = 114
    · have e : plainD c0 l acc n = (0, 0, -1, ((c0 % 64 : Nat) : Int), 1, 0) := by unfold plainD; rw [if_pos h4, if_pos ha]
      rw [e]
      refine ⟨rfl, ⟨Int.le_refl 0, (by decide : (0 : Int) ≤ 15)⟩, ⟨by simp only; omega, by simp only; omega⟩, c0 % 64, [], ?_, by simp, by omega, fun q => by omega, fun q => absurd (show (0 : Int) = 12 from q) (by decide), ?_, ?_⟩
      · unfold firstD
        simp only [↓reduceIte]
        rw [if_pos (by omega)]
      · unfold plainD; rw [if_pos (by omega), if_pos ha]
      · unfold plainD; rw [if_pos (by omega), if_pos ha]
    · exfalso
      apply hk
      unfold plainD
      rw [if_pos h4, if_neg ha]
      rfl
  by_cases q1 : c0 / 16 = 4 ∨ (c0 / 16 < 8 ∧ c0 % 16 = 15) ∨ (c0 / 16 = 5 ∧ acc = 97)
  · exfalso
    apply hk
    unfold plainD
    rw [if_neg h4, if_pos q1]
    rfl
  by_cases q2 : c0 / 16 = 8 ∧ c0 % 16 = 15
  · by_cases ha : acc = 114
    · have e0 : plainD c0 l acc n = valD 12 0 1 n l := by unfold plainD; rw [if_neg h4, if_neg q1, if_pos q2, if_pos ha]
      rw [e0] at he ⊢
      obtain ⟨x, e⟩ := valD_ok he
      rw [e]
      have hlt := extD_lt x n hn
      have hid : ((extD (((extD x n : Nat) : Int)).toNat n : Nat) : Int) = ((extD x n : Nat) : Int) := by rw [Int.toNat_natCast, extD_idem x n hn]
      have hp : plainD 143 (((143 : Nat) : Int) :: putS ((extD x n : Nat) : Int) n) acc n = (12, 0, -1, ((extD x n : Nat) : Int), ((1 + n : Nat) : Int), 0) := by
        unfold plainD
        rw [if_neg (by decide), if_neg (by omega), if_pos (by decide), if_pos ha]
        have := valD_put 12 0 n hn 143 ((extD x n : Nat) : Int) (by omega) (by omega) hid []
        rwa [List.append_nil] at this
      refine ⟨rfl, ⟨Int.le_refl 0, (by decide : (0 : Int) ≤ 15)⟩, ⟨by simp only; omega, by simp only; omega⟩, 143, putS ((extD x n : Nat) : Int) n, ?_, ?_, by decide, fun _ q => absurd (by omega) q, fun _ => hid, by rw [hp], by rw [hp]⟩
      · unfold firstD
        simp
      · rw [List.length_cons, putS_length]; simp only; omega
    · exfalso
      apply hk
      unfold plainD
      rw [if_neg h4, if_neg q1, if_pos q2, if_neg ha]
      rfl
  by_cases q3 : c0 / 16 = 9 ∧ c0 % 16 = 15
  · have e0 : plainD c0 l acc n = valD 13 0 1 4 l := by unfold plainD; rw [if_neg h4, if_neg q1, if_neg q2, if_pos q3]
    rw [e0] at he ⊢
    obtain ⟨x, e⟩ := valD_ok he
    rw [e]
    have h44 : Sz 4 := .inr (.inr rfl)
    have hlt := extD_lt x 4 h44
    have hid : ((extD (((extD x 4 : Nat) : Int)).toNat 4 : Nat) : Int) = ((extD x 4 : Nat) : Int) := by rw [Int.toNat_natCast, extD_idem x 4 h44]
    have hp : plainD 159 (((159 : Nat) : Int) :: putS ((extD x 4 : Nat) : Int) 4) acc n = (13, 0, -1, ((extD x 4 : Nat) : Int), ((1 + 4 : Nat) : Int), 0) := by
      unfold plainD
      rw [if_neg (by decide), if_neg (by omega), if_neg (by decide), if_pos (by decide)]
      have := valD_put 13 0 4 h44 159 ((extD x 4 : Nat) : Int) (by omega) (by omega) hid []
      rwa [List.append_nil] at this
    refine ⟨rfl, ⟨Int.le_refl 0, (by decide : (0 : Int) ≤ 15)⟩, ⟨by simp only; omega, by simp only; omega⟩, 159, putS ((extD x 4 : Nat) : Int) 4, ?_, ?_, by decide, fun _ _ => ⟨by decide, by decide⟩, fun q => absurd (show (13 : Int) = 12 from q) (by decide), by rw [hp], by rw [hp]⟩
    · unfold firstD
      simp
    · rw [List.length_cons, putS_length]; simp only; omega
  by_cases q4 : c0 / 16 < 10
  · have e : ∀ l, plainD c0 l acc n = (((c0 / 16 : Nat) : Int), ((c0 % 16 : Nat) : Int), -1, 0, 1, 0) := fun l => by unfold plainD; rw [if_neg h4, if_neg q1, if_neg q2, if_neg q3, if_pos q4]
    rw [e]
    refine ⟨rfl, ⟨by simp only; omega, by simp only; omega⟩, ⟨by simp only; omega, by simp only; omega⟩, c0, [], ?_, by simp, hc, fun a b => ⟨a, b⟩, fun q => by simp only at q; omega, by rw [e], by rw [e]⟩
    unfold firstD
    simp only
    rw [if_neg (by omega), if_pos (by omega)]
    congr 1
    congr 1
    omega
  · have e0 : plainD c0 l acc n = valD ((10 + c0 / 16 % 2 : Nat) : Int) ((c0 % 16 : Nat) : Int) 1 (2 ^ ((c0 / 16 - 10) / 2)) l := by unfold plainD; rw [if_neg h4, if_neg q1, if_neg q2, if_neg q3, if_neg q4]
    rw [e0] at he ⊢
    obtain ⟨x, e⟩ := valD_ok he
    rw [e]
    have hN : (c0 / 16 - 10) / 2 = 0 ∨ (c0 / 16 - 10) / 2 = 1 ∨ (c0 / 16 - 10) / 2 = 2 := by omega
    obtain ⟨N, hNe⟩ : ∃ N, 2 ^ ((c0 / 16 - 10) / 2) = N := ⟨_, rfl⟩
    rw [hNe]
    have hNs : Sz N := by
      rw [← hNe]
      rcases hN with h | h | h <;> rw [h] <;> simp [Sz]
    have hlt := extD_lt x N hNs
    have hid : extD (extD x N) N = extD x N := extD_idem x N hNs
    obtain ⟨v, hv⟩ : ∃ v, extD x N = v := ⟨_, rfl⟩
    rw [hv] at hlt hid ⊢
    obtain ⟨k, hk'⟩ : ∃ k, 10 + c0 / 16 % 2 = k := ⟨_, rfl⟩
    obtain ⟨m, hm'⟩ : ∃ m, c0 % 16 = m := ⟨_, rfl⟩
    rw [hk', hm']
    have hkk : k = 10 ∨ k = 11 := by omega
    have hmm : m < 16 := by omega
    have near : ∀ (i M : Nat), (i = 0 ∧ M = 1) ∨ (i = 1 ∧ M = 2) ∨ (i = 2 ∧ M = 4) → extD v M = v → M ≤ N → firstD (k : Int) (m : Int) (v : Int) n = some ((((k + 2 * i) * 16 + m : Nat) : Int) :: putS (v : Int) M) →
        Again ((k : Int), (m : Int), -1, (v : Int), ((1 + N : Nat) : Int), 0) c0 acc n := by
      intro i M him hx hle hf
      have hM : Sz M := by rcases him with ⟨_, rfl⟩ | ⟨_, rfl⟩ | ⟨_, rfl⟩ <;> simp [Sz]
      have e1 : ((k + 2 * i) * 16 + m) / 16 = k + 2 * i := by omega
      have e2 : ((k + 2 * i) * 16 + m) % 16 = m := by omega
      have e3 : 2 ^ ((k + 2 * i - 10) / 2) = M := by
        rw [show (k + 2 * i - 10) / 2 = i from by omega]
        rcases him with ⟨rfl, rfl⟩ | ⟨rfl, rfl⟩ | ⟨rfl, rfl⟩ <;> rfl
      have e4 : 10 + (k + 2 * i) % 2 = k := by omega
      have hp : plainD ((k + 2 * i) * 16 + m) ((((k + 2 * i) * 16 + m : Nat) : Int) :: putS (v : Int) M) acc n = ((k : Int), (m : Int), -1, (v : Int), ((1 + M : Nat) : Int), 0) := by
        unfold plainD
        simp only [e1, e2, e3, e4]
        rw [if_neg (by omega), if_neg (by omega), if_neg (by omega), if_neg (by omega), if_neg (by omega)]
        have := valD_put (k : Int) (m : Int) M hM (((k + 2 * i) * 16 + m : Nat) : Int) (v : Int) (by omega) (by omega) (by rw [Int.toNat_natCast, hx]) []
        rwa [List.append_nil] at this
      refine ⟨rfl, ⟨by simp only; omega, by simp only; omega⟩, ⟨by simp only; omega, by simp only; omega⟩, (k + 2 * i) * 16 + m, putS (v : Int) M, hf, ?_, by omega, fun _ _ => ⟨by omega, by omega⟩, fun q => by simp only at q; omega, by rw [hp], by rw [hp]⟩
      rw [List.length_cons, putS_length]
      simp only
      omega
    have f0 : ∀ o, firstD (k : Int) (m : Int) (v : Int) n = o ↔ (if ((extD ((v : Int)).toNat 1 : Nat) : Int) = (v : Int) then some (((k : Int) * 16 + m) :: putS (v : Int) 1) else if ((extD ((v : Int)).toNat 2 : Nat) : Int) = (v : Int) then some ((((k : Int) + 2) * 16 + m) :: putS (v : Int) 2) else some ((((k : Int) + 4) * 16 + m) :: putS (v : Int) 4)) = o := fun o => by
      unfold firstD
      rw [if_neg (by omega), if_neg (by omega), if_pos (by omega)]
    by_cases h1 : extD v 1 = v
    · refine near 0 1 (.inl ⟨rfl, rfl⟩) h1 (by rcases hNs with h | h | h <;> omega) ((f0 _).2 ?_)
      rw [Int.toNat_natCast, if_pos (by omega)]
      simp
    by_cases h2 : extD v 2 = v
    · have : N ≠ 1 := fun q => h1 (q ▸ hid)
      refine near 1 2 (.inr (.inl ⟨rfl, rfl⟩)) h2 (by rcases hNs with h | h | h <;> omega) ((f0 _).2 ?_)
      rw [Int.toNat_natCast, if_neg (by omega), if_pos (by omega)]
      simp
    · have n1 : N ≠ 1 := fun q => h1 (q ▸ hid)
      have n2 : N ≠ 2 := fun q => h2 (q ▸ hid)
      refine near 2 4 (.inr (.inr ⟨rfl, rfl⟩)) (extD_four v hlt) (by rcases hNs with h | h | h <;> omega) ((f0 _).2 ?_)
      rw [Int.toNat_natCast, if_neg (by omega), if_neg (by omega)]
      simp
theorem idxD_ok (i : Int) {p : T6D} (hz : p.2.2.2.2.2 = 0) (h14 : p.1 ≠ 14) : (idxD i p).2.2.2.2.2 = 0 ∧ (idxD i p).1 = p.1 := by
  unfold idxD
  rw [if_pos hz, if_neg h14]
  exact ⟨rfl, rfl⟩
/-- What is decoded can be encoded, in no more bytes. -/
theorem dec_again (l : List Int) (hl : ∀ x ∈ l, 0 ≤ x ∧ x < 256) (acc : Int) (n : Nat) (hn : Sz n) (he : (decD l acc n).2.2.2.2.2 = 0) (hk : (decD l acc n).1 ≠ 14) :
    ∃ d, encD (decD l acc n).1 (decD l acc n).2.1 (decD l acc n).2.2.1 (decD l acc n).2.2.2.1 n acc = some d ∧ (d.length : Int) ≤ (decD l acc n).2.2.2.2.1 := by
  by_cases hacc : acc ∉ ([114, 119, 109, 97, 118, 98] : List Int)
  · unfold decD at he
    rw [if_pos hacc] at he
    exact absurd he (by decide)
  by_cases ha : acc = 98
  · have e0 : decD l acc n = valD 12 0 0 n l := by unfold decD; rw [if_neg hacc, if_pos ha]
    rw [e0] at he ⊢
    obtain ⟨x, e⟩ := valD_ok he
    rw [e]
    refine ⟨putS ((extD x n : Nat) : Int) n, ?_, ?_⟩
    · unfold encD
      rw [if_pos ha, if_pos ⟨rfl, (by decide : (-1 : Int) < 0), (by decide : (0 : Int) ≤ 0), (by decide : (0 : Int) ≤ 15), by rw [Int.toNat_natCast, extD_idem x n hn]⟩]
    · rw [putS_length]; simp only; omega
  by_cases h0 : l.length = 0
  · unfold decD at he
    rw [if_neg hacc, if_neg ha, if_pos h0] at he
    exact absurd he (by decide)
  obtain ⟨y, t, rfl⟩ : ∃ y t, l = y :: t := by
    cases l with
    | nil => exact absurd rfl h0
    | cons y t => exact ⟨y, t, rfl⟩
  obtain ⟨c0, rfl⟩ : ∃ c : Nat, y = c := ⟨y.toNat, by have := hl y List.mem_cons_self; omega⟩
  have hc0 : c0 < 256 := by have := hl _ List.mem_cons_self; omega
  by_cases h4 : c0 / 16 = 4
  · have e0 : decD ((c0 : Int) :: t) acc n = indexD c0 t acc n := by
      unfold decD
      rw [if_neg hacc, if_neg ha, if_neg h0]
      simp only [List.getD_cons_zero, List.drop_succ_cons, List.drop_zero, Int.toNat_natCast]
      rw [if_pos h4]
    rw [e0] at he hk ⊢
    by_cases h15 : c0 % 16 = 15
    · exfalso; apply hk; unfold indexD; rw [if_pos h15]; rfl
    by_cases ht : t.length = 0
    · unfold indexD at he
      rw [if_neg h15, if_pos ht] at he
      exact absurd he (by decide)
    obtain ⟨z, s, rfl⟩ : ∃ z s, t = z :: s := by
      cases t with
      | nil => exact absurd rfl ht
      | cons z s => exact ⟨z, s, rfl⟩
    obtain ⟨b0, rfl⟩ : ∃ c : Nat, z = c := ⟨z.toNat, by have := hl z (by simp); omega⟩
    have hb0 : b0 < 256 := by have := hl (b0 : Int) (by simp); omega
    by_cases h6 : b0 / 16 < 6 ∨ (b0 : Int) = 143
    · exfalso; apply hk; unfold indexD; rw [if_neg h15, if_neg ht]
      simp only [List.getD_cons_zero, Int.toNat_natCast]
      rw [if_pos h6]; rfl
    have e1 : indexD c0 ((b0 : Int) :: s) acc n = idxD ((c0 % 16 : Nat) : Int) (plainD b0 ((b0 : Int) :: s) acc n) := by
      unfold indexD
      rw [if_neg h15, if_neg ht]
      simp only [List.getD_cons_zero, Int.toNat_natCast]
      rw [if_neg h6]
    rw [e1] at he hk ⊢
    obtain ⟨p, hp⟩ : ∃ p, plainD b0 ((b0 : Int) :: s) acc n = p := ⟨_, rfl⟩
    rw [hp] at he hk ⊢
    have hz : p.2.2.2.2.2 = 0 := by
      unfold idxD at he
      by_cases q : p.2.2.2.2.2 = 0
      · exact q
      · rw [if_neg q] at he; exact he
    have h14 : p.1 ≠ 14 := fun q => by
      apply hk
      unfold idxD
      rw [if_pos hz, if_pos q]
      exact q
    have e2 : idxD ((c0 % 16 : Nat) : Int) p = (p.1, p.2.1, ((c0 % 16 : Nat) : Int), p.2.2.2.1, p.2.2.2.2.1 + 1, 0) := by unfold idxD; rw [if_pos hz, if_neg h14]
    rw [e2]
    have A := plain_again b0 hb0 ((b0 : Int) :: s) n hn acc (by rw [hp]; exact hz) (by rw [hp]; exact h14)
    rw [hp] at A
    obtain ⟨a1, a2, a3, d0, t', f1, f2, f3, f4, f5, f6, f7⟩ := A
    obtain ⟨g1, g2⟩ := f4 (by omega) (fun q => h6 (.inr (by omega)))
    refine ⟨(64 + ((c0 % 16 : Nat) : Int)) :: (d0 : Int) :: t', ?_, ?_⟩
    · unfold encD
      simp only
      rw [if_neg ha, if_neg (by omega), f1]
      simp only
      have ec : (if (0 : Int) ≤ ((c0 % 16 : Nat) : Int) then (64 + ((c0 % 16 : Nat) : Int)) :: (d0 : Int) :: t' else (d0 : Int) :: t') = (64 + ((c0 % 16 : Nat) : Int)) :: (d0 : Int) :: t' := if_pos (by omega)
      rw [ec]
      have e3 : decD ((64 + ((c0 % 16 : Nat) : Int)) :: (d0 : Int) :: t') acc n = idxD ((c0 % 16 : Nat) : Int) (plainD d0 ((d0 : Int) :: t') acc n) := by
        unfold decD
        rw [if_neg hacc, if_neg ha, if_neg (by simp)]
        simp only [List.getD_cons_zero, List.drop_succ_cons, List.drop_zero]
        rw [if_pos (by omega)]
        unfold indexD
        rw [show (64 + ((c0 % 16 : Nat) : Int)).toNat % 16 = c0 % 16 from by omega, if_neg h15, if_neg (by simp)]
        simp only [List.getD_cons_zero, Int.toNat_natCast]
        rw [if_neg (by omega)]
      have ok := idxD_ok ((c0 % 16 : Nat) : Int) f6 (by rw [f7]; exact h14)
      rw [e3, if_pos ⟨ok.1, ok.2.trans f7, f5⟩]
    · simp only [List.length_cons] at f2 ⊢
      omega
  · have e0 : decD ((c0 : Int) :: t) acc n = plainD c0 ((c0 : Int) :: t) acc n := by
      unfold decD
      rw [if_neg hacc, if_neg ha, if_neg h0]
      simp only [List.getD_cons_zero, Int.toNat_natCast]
      rw [if_neg h4]
    rw [e0] at he hk ⊢
    obtain ⟨a1, a2, a3, d0, t', f1, f2, f3, f4, f5, f6, f7⟩ := plain_again c0 hc0 _ n hn acc he hk
    refine ⟨(d0 : Int) :: t', ?_, f2⟩
    unfold encD
    rw [if_neg ha, a1, if_neg (fun q => by have := a2.1; have := a2.2; rcases q with q | q | q <;> omega), f1]
    simp only
    have ec : (if (0 : Int) ≤ -1 then (64 + (-1 : Int)) :: (d0 : Int) :: t' else (d0 : Int) :: t') = (d0 : Int) :: t' := if_neg (by decide)
    rw [ec]
    have h44 : ¬ d0 / 16 = 4 := fun q => first_not4 _ _ _ n a2.1 a2.2 _ f1 d0 t' rfl q
    have e3 : decD ((d0 : Int) :: t') acc n = plainD d0 ((d0 : Int) :: t') acc n := by
      unfold decD
      rw [if_neg hacc, if_neg ha, if_neg (by simp)]
      simp only [List.getD_cons_zero, Int.toNat_natCast]
      rw [if_neg h44]
    rw [e3, if_pos ⟨f6, f7, f5⟩]
end Go.Proofs.Ytbgcbnlpjjhmhaa.SpecWalk
