/- A specifier hangs on its own bytes alone: the pure statement behind SpecAlone. No condition. -/
import Derived.Test.YtbgcbnlpjjhmhaaGSpecAlonex6
import Derived.Test.YtbgcbnlpjjhmhaaPureSpecSizes
import Derived.Test.YtbgcbnlpjjhmhaaWSized
namespace Go.Proofs.YtbgcbnlpjjhmhaaW.PrintWords
open Go.RowKit in
def IsRow (k : IntKind) (w : World) (a : Option Addr) (len cap : Nat) (zs : List Int) : Prop :=
  (a = none ∧ len = 0 ∧ cap = 0 ∧ zs = []) ∨
  ∃ x, a = some x ∧ len ≤ cap ∧ cap ≤ maxLen ∧ zs.length = cap ∧ (∀ i, i < zs.length → w.cell? (x.add i) = some (.int k (zs.getD i 0))) ∧ ∀ n ∈ zs, (Lit.int k n).wf = true
end Go.Proofs.YtbgcbnlpjjhmhaaW.PrintWords

namespace Go.Proofs.Ytbgcbnlpjjhmhaa.Pure
open Go.RowKit Go.Proofs.Ytbgcbnlpjjhmhaa.Aid Go.Proofs.Ytbgcbnlpjjhmhaa.GSpecSizes Go.Proofs.Ytbgcbnlpjjhmhaa.GSpecAlone Go.Proofs.YtbgcbnlpjjhmhaaW.PrintWords Go.Proofs.YtbgcbnlpjjhmhaaW.PrintLast

/-! A specifier hangs on its own bytes alone. -/
abbrev err6 (p : T6) : Int := p.2.2.2.2.2
abbrev len6 (p : T6) : Int := p.2.2.2.2.1

/-- What f answers of l hangs on the first b bytes alone; of fewer it says that more are needed. -/
def Own (f : List Int → T6) (l : List Int) (b : Nat) : Prop :=
  len6 (f l) = (b : Int) ∧ 1 ≤ b ∧ b ≤ l.length ∧ (∀ l', l'.take b = l.take b → f l' = f l) ∧ (∀ m, m < b → f (l.take m) = longS)

theorem take_len {l l' : List Int} {b : Nat} (h : l'.take b = l.take b) (hb : b ≤ l.length) : b ≤ l'.length := by
  have := congrArg List.length h
  rw [List.length_take, List.length_take] at this
  omega
theorem val_own (kind reg : Int) (a n : Nat) (h1 : 1 ≤ a + n) (l : List Int) (h : err6 (valS kind reg a n l) = 0) : Own (valS kind reg a n) l (a + n) := by
  have hn : ¬ l.length < a + n := by
    intro q
    unfold valS at h
    rw [if_pos q] at h
    exact absurd h (by decide)
  refine ⟨?_, h1, by omega, ?_, ?_⟩
  · unfold valS; rw [if_neg hn]
  · intro l' hl'
    have := take_len hl' (by omega)
    unfold valS
    rw [if_neg hn, if_neg (by omega), hl']
  · intro m hm
    unfold valS
    rw [if_pos (by rw [List.length_take]; omega)]

/-- The two shapes of a specifier without an index: fixed by its first byte, or a number behind it. -/
def Shape (f : List Int → T6) (b0 : Int) : Prop :=
  (∃ c : T6, err6 c = 0 ∧ len6 c = 1 ∧ ∀ l, rd l 0 = b0 → f l = c) ∨ (∃ (kind reg : Int) (n : Nat), n ≤ 4 ∧ ∀ l, rd l 0 = b0 → f l = valS kind reg 1 n l)

theorem pow_le4 (h : Nat) (hh : h < 16) : 2 ^ ((h - 10) / 2) ≤ 4 := Nat.le_trans (Nat.pow_le_pow_right (by decide) (by omega : (h - 10) / 2 ≤ 2)) (by decide)

theorem plain_shape (b0 : Int) (hb : byt b0) (acc : Int) (n : Nat) (hn : n ≤ 4) : Shape (fun l => plainS l acc n) b0 := by
  have hb0 := hb; unfold byt at hb0
  unfold Shape
  have hh : b0.toNat / 16 < 16 := by omega
  by_cases h4 : b0.toNat / 16 < 4
  · by_cases ha : acc = 114
    · refine Or.inl ⟨(0, 0, -1, ((b0.toNat % 64 : Nat) : Int), 1, 0), rfl, rfl, fun l hl => ?_⟩
      dsimp only; unfold plainS; dsimp only
      rw [hl, if_pos h4, if_pos ha]
    · refine Or.inl ⟨badS 1, rfl, rfl, fun l hl => ?_⟩
      dsimp only; unfold plainS; dsimp only
      rw [hl, if_pos h4, if_neg ha]
  · cases hc : (decide (b0.toNat / 16 = 4) || (decide (b0.toNat / 16 < 8) && decide (b0.toNat % 16 = 15)) || (decide (b0.toNat / 16 = 5) && decide (acc = 97))) with
    | true =>
      refine Or.inl ⟨badS 1, rfl, rfl, fun l hl => ?_⟩
      dsimp only; unfold plainS plain0; dsimp only
      rw [hl, if_neg h4, hc, if_pos rfl]
    | false =>
      cases hd : (decide (b0.toNat / 16 = 8) && decide (b0.toNat % 16 = 15)) with
      | true =>
        by_cases ha : acc = 114
        · refine Or.inr ⟨12, 0, n, hn, fun l hl => ?_⟩
          dsimp only; unfold plainS plain0 plain1; dsimp only
          rw [hl, if_neg h4, hc, if_neg (by decide), hd, if_pos rfl, if_pos ha]
        · refine Or.inl ⟨badS 1, rfl, rfl, fun l hl => ?_⟩
          dsimp only; unfold plainS plain0 plain1; dsimp only
          rw [hl, if_neg h4, hc, if_neg (by decide), hd, if_pos rfl, if_neg ha]
      | false =>
        cases he : (decide (b0.toNat / 16 = 9) && decide (b0.toNat % 16 = 15)) with
        | true =>
          refine Or.inr ⟨13, 0, 4, by omega, fun l hl => ?_⟩
          dsimp only; unfold plainS plain0 plain1 plain2; dsimp only
          rw [hl, if_neg h4, hc, if_neg (by decide), hd, if_neg (by decide), he, if_pos rfl]
        | false =>
          by_cases h10 : b0.toNat / 16 < 10
          · refine Or.inl ⟨(((b0.toNat / 16 : Nat) : Int), ((b0.toNat % 16 : Nat) : Int), -1, 0, 1, 0), rfl, rfl, fun l hl => ?_⟩
            dsimp only; unfold plainS plain0 plain1 plain2; dsimp only
            rw [hl, if_neg h4, hc, if_neg (by decide), hd, if_neg (by decide), he, if_neg (by decide), if_pos h10]
          · refine Or.inr ⟨((10 + b0.toNat / 16 % 2 : Nat) : Int), ((b0.toNat % 16 : Nat) : Int), 2 ^ ((b0.toNat / 16 - 10) / 2), pow_le4 _ hh, fun l hl => ?_⟩
            dsimp only; unfold plainS plain0 plain1 plain2; dsimp only
            rw [hl, if_neg h4, hc, if_neg (by decide), hd, if_neg (by decide), he, if_neg (by decide), if_neg h10]

theorem rd_take (l : List Int) (i : Nat) (m : Nat) (h : i < m) : rd (l.take m) (i : Int) = rd l (i : Int) := by
  unfold rd
  rw [List.getD_eq_getElem?_getD, List.getD_eq_getElem?_getD, Int.toNat_natCast, List.getElem?_take, if_pos h]
theorem rd_same {l l' : List Int} {b : Nat} (h : l'.take b = l.take b) (i : Nat) (hi : i < b) : rd l' (i : Int) = rd l (i : Int) := by
  rw [← rd_take l' i b hi, ← rd_take l i b hi, h]

/-- An index byte lays the whole one place further on. -/
def idxOf (x : Int) (p : T6) : T6 :=
  if p.2.2.2.2.2 = 0 then (if p.1 = 14 then (p.1, p.2.1, p.2.2.1, p.2.2.2.1, wrap64 (p.2.2.2.2.1 + 1), p.2.2.2.2.2) else (p.1, p.2.1, x, p.2.2.2.1, wrap64 (p.2.2.2.2.1 + 1), p.2.2.2.2.2)) else p
theorem indexed_eq (l : List Int) (acc : Int) (n : Nat) : indexedS l acc n =
    if (rd l 0).toNat % 16 = 15 then badS 1 else if l.length < 2 then longS else if (rd l 1).toNat / 16 < 6 ∨ rd l 1 = 143 then badS 2 else
      idxOf (((rd l 0).toNat % 16 : Nat) : Int) (plainS (l.drop 1) acc n) := rfl
theorem idx_err (x : Int) (p : T6) : err6 (idxOf x p) = err6 p := by
  unfold idxOf
  by_cases h : p.2.2.2.2.2 = 0
  · rw [if_pos h]
    by_cases h1 : p.1 = 14
    · rw [if_pos h1]
    · rw [if_neg h1]
  · rw [if_neg h]
theorem idx_len (x : Int) (p : T6) (h : err6 p = 0) : len6 (idxOf x p) = wrap64 (len6 p + 1) := by
  unfold idxOf
  rw [if_pos h]
  by_cases h1 : p.1 = 14
  · rw [if_pos h1]
  · rw [if_neg h1]
theorem idx_long (x : Int) : idxOf x longS = longS := by
  unfold idxOf longS
  rw [if_neg (by decide)]

theorem plain_own (l : List Int) (hl : byt (rd l 0)) (h1 : 1 ≤ l.length) (acc : Int) (n : Nat) (hn : n ≤ 4) (h : err6 (plainS l acc n) = 0) :
    ∃ b : Nat, b ≤ 5 ∧ len6 (plainS l acc n) = (b : Int) ∧ 1 ≤ b ∧ b ≤ l.length ∧ (∀ l', l'.take b = l.take b → plainS l' acc n = plainS l acc n) ∧ (∀ m, 1 ≤ m → m < b → plainS (l.take m) acc n = longS) := by
  rcases plain_shape (rd l 0) hl acc n hn with ⟨c, h0, h2, hc⟩ | ⟨kind, reg, n', hn', hc⟩
  · have e := hc l rfl
    dsimp only at e
    refine ⟨1, by decide, by rw [e, h2]; rfl, by decide, h1, fun l' hl' => ?_, fun m hm hm' => by omega⟩
    have e' := hc l' (rd_same hl' 0 (by decide))
    dsimp only at e'
    rw [e, e']
  · have e := hc l rfl
    dsimp only at e
    rw [e] at h
    obtain ⟨o1, o2, o3, o4, o5⟩ := val_own kind reg 1 n' (by omega) l h
    refine ⟨1 + n', by omega, by rw [e, o1], o2, o3, fun l' hl' => ?_, fun m hm hm' => ?_⟩
    · have e' := hc l' (rd_same hl' 0 (by omega))
      dsimp only at e'
      rw [e, e', o4 l' hl']
    · have e' := hc (l.take m) (rd_take l 0 m (by omega))
      dsimp only at e'
      rw [e', o5 m hm']

theorem decode_own (l : List Int) (hl : ∀ x ∈ l, byt x) (acc : Int) (n : Nat) (hn : 1 ≤ n) (hn' : n ≤ 4) (h : err6 (decodeS l acc n) = 0) :
    ∃ b : Nat, b ≤ 6 ∧ Own (fun l => decodeS l acc n) l b := by
  by_cases h1 : acc ∉ ([114, 119, 109, 97, 118, 98] : List Int)
  · unfold decodeS at h
    rw [if_pos h1] at h
    exact absurd h (by decide)
  by_cases h2 : acc = 98
  · have e : (fun l => decodeS l acc n) = valS 12 0 0 n := by
      funext l'
      unfold decodeS
      rw [if_neg h1, if_pos h2]
    rw [e]
    have e' : decodeS l acc n = valS 12 0 0 n l := congrFun e l
    rw [e'] at h
    exact ⟨0 + n, by omega, val_own 12 0 0 n (by omega) l h⟩
  have de : ∀ l' : List Int, decodeS l' acc n = if l'.length = 0 then longS else if (rd l' 0).toNat / 16 = 4 then indexedS l' acc n else plainS l' acc n := by
    intro l'
    unfold decodeS
    rw [if_neg h1, if_neg h2]
  by_cases h0 : l.length = 0
  · rw [de, if_pos h0] at h
    exact absurd h (by decide)
  have d0 : ∀ m, m = 0 → decodeS (l.take m) acc n = longS := by
    intro m hm
    rw [de, if_pos (by rw [List.length_take]; omega)]
  by_cases h4 : (rd l 0).toNat / 16 = 4
  · have e : ∀ l' : List Int, 1 ≤ l'.length → rd l' 0 = rd l 0 → decodeS l' acc n = indexedS l' acc n := by
      intro l' q q'
      rw [de, if_neg (by omega), q', if_pos h4]
    have e0 := e l (by omega) rfl
    rw [e0] at h
    unfold Own
    dsimp only
    rw [e0]
    by_cases hm : (rd l 0).toNat % 16 = 15
    · have i0 : indexedS l acc n = badS 1 := by rw [indexed_eq, if_pos hm]
      rw [i0]
      refine ⟨1, by decide, rfl, by decide, by omega, fun l' hl' => ?_, fun m hm => d0 m (by omega)⟩
      have r0 := rd_same hl' 0 (by decide)
      have := take_len hl' (by omega)
      rw [e l' this r0, indexed_eq, show rd l' 0 = rd l 0 from r0, if_pos hm]
    by_cases h2' : l.length < 2
    · rw [indexed_eq, if_neg hm, if_pos h2'] at h
      exact absurd h (by decide)
    have d1 : ∀ m, m < 2 → decodeS (l.take m) acc n = longS := by
      intro m hm'
      by_cases m0 : m = 0
      · exact d0 m m0
      · have r0 := rd_take l 0 m (by omega)
        rw [e _ (by rw [List.length_take]; omega) r0, indexed_eq, show rd (l.take m) 0 = rd l 0 from r0, if_neg hm, if_pos (by rw [List.length_take]; omega)]
    by_cases h6 : (rd l 1).toNat / 16 < 6 ∨ rd l 1 = 143
    · have i0 : indexedS l acc n = badS 2 := by rw [indexed_eq, if_neg hm, if_neg h2', if_pos h6]
      rw [i0]
      refine ⟨2, by decide, rfl, by decide, by omega, fun l' hl' => ?_, fun m hm => d1 m hm⟩
      have r0 := rd_same hl' 0 (by decide)
      have r1 := rd_same hl' 1 (by decide)
      have := take_len hl' (by omega)
      rw [e l' (by omega) r0, indexed_eq, show rd l' 0 = rd l 0 from r0, if_neg hm, if_neg (by omega), show rd l' 1 = rd l 1 from r1, if_pos h6]
    · have ie : ∀ l' : List Int, 2 ≤ l'.length → rd l' 0 = rd l 0 → rd l' 1 = rd l 1 → indexedS l' acc n = idxOf (((rd l 0).toNat % 16 : Nat) : Int) (plainS (l'.drop 1) acc n) := by
        intro l' q q0 q1
        rw [indexed_eq, q0, q1, if_neg hm, if_neg (by omega), if_neg h6]
      have i0 := ie l (by omega) rfl rfl
      rw [i0, idx_err] at h
      obtain ⟨b, b5, p1, p2, p3, p4, p5⟩ := plain_own (l.drop 1) (rd_byt (fun x hx => hl x (List.mem_of_mem_drop hx)) 0) (by rw [List.length_drop]; omega) acc n hn' h
      rw [List.length_drop] at p3
      rw [i0]
      refine ⟨b + 1, by omega, ?_, by omega, by omega, fun l' hl' => ?_, fun m hm => ?_⟩
      · rw [idx_len _ _ h, p1, wrap64_in (by omega) (by omega)]; omega
      · have r0 := rd_same hl' 0 (by omega)
        have r1 := rd_same hl' 1 (by omega)
        have := take_len hl' (by omega)
        have q : (l'.drop 1).take b = (l.drop 1).take b := by
          rw [List.take_drop, List.take_drop, Nat.add_comm, hl']
        rw [e l' (by omega) r0, ie l' (by omega) r0 r1, p4 _ q]
      · by_cases m2 : m < 2
        · exact d1 m m2
        · have r0 := rd_take l 0 m (by omega)
          have r1 := rd_take l 1 m (by omega)
          have q : (l.take m).drop 1 = (l.drop 1).take (m - 1) := by
            rw [List.take_drop, show 1 + (m - 1) = m from by omega]
          rw [e _ (by rw [List.length_take]; omega) r0, ie _ (by rw [List.length_take]; omega) r0 r1, q, p5 (m - 1) (by omega) (by omega), idx_long]
  · have e : ∀ l' : List Int, 1 ≤ l'.length → rd l' 0 = rd l 0 → decodeS l' acc n = plainS l' acc n := by
      intro l' q q'
      rw [de, if_neg (by omega), q', if_neg h4]
    have e0 := e l (by omega) rfl
    rw [e0] at h
    obtain ⟨b, b5, p1, p2, p3, p4, p5⟩ := plain_own l (rd_byt hl 0) (by omega) acc n hn' h
    unfold Own
    dsimp only
    rw [e0]
    refine ⟨b, by omega, p1, p2, p3, fun l' hl' => ?_, fun m hm => ?_⟩
    · have r0 := rd_same hl' 0 (by omega)
      have := take_len hl' (by omega)
      rw [e l' (by omega) r0, p4 l' hl']
    · by_cases m0 : m = 0
      · exact d0 m m0
      · have r0 := rd_take l 0 m (by omega)
        rw [e _ (by rw [List.length_take]; omega) r0, p5 m (by omega) hm]

theorem decode_bad (k : Nat) (l : List Int) (acc n : Int) (h1 : n ≠ 1) (h2 : n ≠ 2) (h4 : n ≠ 4) : spec_Decode.f (k + 1) l acc n = some (0, 0, 0, 0, 0, 1) := by
  have hm : bits_Mask.f n = some 0 := by
    unfold bits_Mask.f
    rw [if_neg h1, if_neg h2, if_neg h4]
  unfold spec_Decode.f spec_Decode.j0; dsimp only
  rw [hm, Option.bind_some, if_pos rfl, if_pos rfl]

theorem alone_l0 (l : List Int) (hl : ∀ x ∈ l, byt x) (acc : Int) (n : Nat) (hn : n = 1 ∨ n = 2 ∨ n = 4) (b : Nat) (hb : b ≤ l.length) (hb6 : b ≤ 6) (ho : ∀ m, m < b → decodeS (l.take m) acc n = longS) (v0 v1 v2 v3 : Int) (d : Nat) :
    ∀ (k i : Nat), i + d = b → d + 12 ≤ k → camshaftlaw11_SpecAlone.l0 k l (i : Int) acc (n : Int) v0 v1 v2 v3 (b : Int) = some true := by
  induction d with
  | zero =>
    intro k i hi hk
    obtain ⟨k, rfl⟩ : ∃ m, k = m + 1 := ⟨k - 1, by omega⟩
    unfold camshaftlaw11_SpecAlone.l0
    rw [if_neg (by omega)]
  | succ d ih =>
    intro k i hi hk
    obtain ⟨k, rfl⟩ : ∃ m, k = m + 1 := ⟨k - 1, by omega⟩
    have e := decode_is k (by omega) (l.take i) (fun x hx => hl x (List.mem_of_mem_take hx)) acc n hn
    rw [ho i (by omega)] at e
    unfold camshaftlaw11_SpecAlone.l0
    rw [if_pos (by omega), if_pos (by omega), if_pos (by omega), Int.toNat_natCast, e, Option.bind_some]
    unfold longS
    rw [if_pos rfl, if_neg (by decide), wrap64_in (n := (i : Int) + 1) (by omega) (by omega), show ((i : Int) + 1) = ((i + 1 : Nat) : Int) from by omega]
    exact ih k (i + 1) (by omega) (by omega)

theorem alone0 (l l2 : List Int) (hl : ∀ x ∈ l, byt x) (hl2 : ∀ x ∈ l2, byt x) (acc n : Int) (c : Bool) (hc : c = false → l.length ≤ 256 ∧ l2.length ≤ 256) : camshaftlaw11_SpecAlone.j0 41 l l2 c acc n = some true := by
  unfold camshaftlaw11_SpecAlone.j0; dsimp only
  cases c with
  | true => rw [if_pos rfl]
  | false =>
    obtain ⟨q1, q2⟩ := hc rfl
    rw [if_neg (by decide)]
    by_cases hn : n = 1 ∨ n = 2 ∨ n = 4
    · obtain ⟨m, rfl, hm⟩ : ∃ m : Nat, n = (m : Int) ∧ (m = 1 ∨ m = 2 ∨ m = 4) := ⟨n.toNat, by omega, by omega⟩
      rw [decode_is 40 (by decide) l hl acc m hm, Option.bind_some]
      by_cases he : err6 (decodeS l acc m) = 0
      · obtain ⟨b, b6, p1, p2, p3, p4, p5⟩ := decode_own l hl acc m (by omega) (by omega) he
        have hcat : decodeS ((([] : List Int) ++ l.take b) ++ l2) acc m = decodeS l acc m := by
          refine p4 _ ?_
          rw [List.nil_append, List.take_append_of_le_length (by rw [List.length_take]; omega), List.take_take, Nat.min_self]
        have e2 := decode_is 39 (by decide) ((([] : List Int) ++ l.take b) ++ l2) (by
          intro x hx
          rw [List.nil_append, List.mem_append] at hx
          exact hx.elim (fun hx => hl x (List.mem_of_mem_take hx)) (fun hx => hl2 x hx)) acc m hm
        rw [hcat] at e2
        dsimp only at p1 p5
        generalize decodeS l acc m = d at he p1 e2 ⊢
        obtain ⟨d1, d2, d3, d4, d5, d6⟩ := d
        have he' : d6 = 0 := he
        have p1' : d5 = (b : Int) := p1
        subst he' p1'
        dsimp only
        have hlen : (l.take b).length = b := by rw [List.length_take]; omega
        have hlen0 : ([] : List Int).length = 0 := rfl
        rw [if_pos rfl, if_neg (by omega), if_neg (by omega), decide_eq_false (by omega : ¬ (b : Int) > 6)]
        unfold camshaftlaw11_SpecAlone.j1; dsimp only
        rw [if_neg (by decide), Option.bind_some, if_pos (by omega), if_pos (by omega), Int.toNat_natCast, if_pos (by rw [hlen]; omega), Option.bind_some, if_pos (by rw [List.nil_append, hlen]; omega), e2, Option.bind_some, if_pos rfl]
        rw [show (!(d1 == d1) || (!(d2 == d2) || (!(d3 == d3) || (!(d4 == d4) || (!((b : Int) == (b : Int))))))) = false from by simp only [beq_self_eq_true, Bool.not_true, Bool.or_false]]
        unfold camshaftlaw11_SpecAlone.j2; dsimp only
        rw [if_neg (by decide)]
        exact alone_l0 l hl acc m hm b p3 b6 p5 d1 d2 d3 d4 b 38 0 (by omega) (by omega)
      · rw [if_neg he]
    · rw [decode_bad 39 l acc n (fun q => hn (Or.inl q)) (fun q => hn (Or.inr (Or.inl q))) (fun q => hn (Or.inr (Or.inr q))), Option.bind_some, if_neg (by decide)]

theorem SpecAlone (l l2 : List Int) (acc n : Int) (hw : ∀ x ∈ l, (Lit.int .u8 x).wf = true) (hw2 : ∀ x ∈ l2, (Lit.int .u8 x).wf = true) : ∃ k, camshaftlaw11_SpecAlone.f k l acc n l2 = some true := by
  have hl : ∀ x ∈ l, byt x := fun x hx => by obtain ⟨n, rfl, hn⟩ := u8_nat (hw x hx); unfold byt; omega
  have hl2 : ∀ x ∈ l2, byt x := fun x hx => by obtain ⟨n, rfl, hn⟩ := u8_nat (hw2 x hx); unfold byt; omega
  refine ⟨41, ?_⟩
  unfold camshaftlaw11_SpecAlone.f
  rw [alive_is 41 (by decide), Option.bind_some, if_pos rfl]
  by_cases h1 : (l.length : Int) > 256
  · rw [if_pos h1]; exact alone0 l l2 hl hl2 acc n true (fun h => absurd h (by decide))
  · rw [if_neg h1]; exact alone0 l l2 hl hl2 acc n _ (fun h => by have := of_decide_eq_false h; omega)

theorem SpecAlone_walk (a0 : Option Addr) (len0 cap0 : Nat) (z0 : List Int) (a1_0 a1_1 : Int) (a2 : Option Addr) (len2 cap2 : Nat) (z2 : List Int) (w : World) (w0 : IsRow .u8 w a0 len0 cap0 z0) (_ : len0 * 1 ≤ 140737488351232)
    (_ : (Lit.int .u8 a1_0).wf = true) (_ : (Lit.int .i64 a1_1).wf = true) (w2 : IsRow .u8 w a2 len2 cap2 z2) (_ : len2 * 1 ≤ 140737488351232) :
    Calls Try.prog 10 #[.slice a0 len0 cap0, .agg #[.int .u8 a1_0, .int .i64 a1_1], .slice a2 len2 cap2] w fun e w' => e = .returned (.bool true) ∧ Below w.heap.size w w' := by
  obtain ⟨l0, rfl, hr0, hm0, hw0, hc0⟩ := ReadsInt.ofRowC w0
  obtain ⟨l2, rfl, hr2, hm2, hw2, hc2⟩ := ReadsInt.ofRowC w2
  obtain ⟨k, h⟩ := SpecAlone l0 l2 a1_0 a1_1 hw0 hw2
  exact camshaftlaw11_SpecAlone.calls k _ _ l0 a1_0 a1_1 _ _ l2 true w (Kd.C_of_reads (d := (0 : Int)) (h1 := fun _ => rfl) hr0) hc0 (Kd.C_of_reads (d := (0 : Int)) (h1 := fun _ => rfl) hr2) hc2 h
end Go.Proofs.Ytbgcbnlpjjhmhaa.Pure
