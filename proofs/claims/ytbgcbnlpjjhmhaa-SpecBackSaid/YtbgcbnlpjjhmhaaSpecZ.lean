/- SpecBack: Encode as one contract; Same. -/
import Derived.Test.YtbgcbnlpjjhmhaaSpecY
namespace Go.Proofs.Ytbgcbnlpjjhmhaa.SpecWalk
open Go.RowKit Go.Proofs.Ytbgcbnlpjjhmhaa.Aid Go.Proofs.Ytbgcbnlpjjhmhaa.Pure Go.Proofs.Ytbgcbnlpjjhmhaa.GSpecSizes Go.Proofs.YtbgcbnlpjjhmhaaW.PrintWords Go.Proofs.YtbgcbnlpjjhmhaaW.PrintLast Go.Proofs.YtbgcbnlpjjhmhaaW.PrintMore
attribute [local go_sem] max2_int min2_int max_two min_two max_three min_three max_four min_four   -- for this text's walks alone
set_option linter.unusedVariables false
set_option linter.unusedSimpArgs false
theorem enc_98 (w : World) (kd reg idx by_ : Int) (val n : Nat) (hv : val < 4294967296) (hn : Sz n) :
    Calls Try.prog 33 #[.agg #[.int .i64 kd, .int .i64 reg, .int .i64 idx, .int .u32 val, .int .i64 by_], .agg #[.int .u8 98, .int .i64 n]] w (EPost w (encD kd reg idx val n 98)) := by
  unfold encD
  rw [if_pos rfl, Int.toNat_natCast]
  by_cases hk : kd = 12
  · subst hk
    by_cases hi : 0 ≤ idx
    · rw [if_neg (fun q => by omega)]
      exact encb_idx w 12 reg idx by_ val n hv hn hi
    by_cases hr : reg < 0
    · rw [if_neg (fun q => by omega)]
      exact encb_neg w 12 reg idx by_ val n hv hn (by omega) hr
    by_cases h15 : 15 < reg
    · rw [if_neg (fun q => by omega)]
      exact encb_big w 12 reg idx by_ val n hv hn (by omega) (by omega) h15
    by_cases he : ((extD val n : Nat) : Int) = (val : Int)
    · rw [if_pos ⟨rfl, by omega, by omega, by omega, he⟩]
      exact encb_ok w 12 reg idx by_ val n hv hn (by omega) (by omega) (by omega) he
    · rw [if_neg (fun q => he q.2.2.2.2)]
      exact encb_ext w 12 reg idx by_ val n hv hn (by omega) (by omega) (by omega) he
  · rw [if_neg (fun q => hk q.1)]
    exact encb_kd w kd reg idx by_ val n hv hn hk
theorem enc_call (w : World) (kd reg idx by_ acc : Int) (val n : Nat) (hv : val < 4294967296) (hn : Sz n) :
    Calls Try.prog 33 #[.agg #[.int .i64 kd, .int .i64 reg, .int .i64 idx, .int .u32 val, .int .i64 by_], .agg #[.int .u8 acc, .int .i64 n]] w (EPost w (encD kd reg idx val n acc)) := by
  by_cases ha : acc = 98
  · subst ha
    exact enc_98 w kd reg idx by_ val n hv hn
  have ha' : (acc == 98) = false := beq_eq_false_iff_ne.2 ha
  obtain ⟨l, b, hf, hl5, hbl, hF⟩ := first_ex kd reg idx by_ val n hv hn
  unfold encD
  rw [if_neg ha]
  obtain ⟨i, hi16, hib, hii⟩ := low4 idx
  have hx : Go.bits .or .u8 64 (Go.bits .and .i64 idx 15 % 256) = ((64 + i : Nat) : Int) := by
    rw [hib, show ((i : Int) % 256) = (i : Int) from by omega]
    exact or_idx ⟨i, hi16⟩
  by_cases hneg : reg < 0
  · rw [if_pos (.inl hneg)]
    by_cases hi : 0 ≤ idx
    · cases b with
      | false => exact encp_no w kd reg idx by_ acc val n hv hn ha' l hl5 hbl hF hi _ hx
      | true => exact encp_neg w kd reg idx by_ acc val n hv hn ha' l hl5 hbl hF hi _ hx hneg
    · cases b with
      | false => exact encn_no w kd reg idx by_ acc val n hv hn ha' l hl5 hbl hF (by omega)
      | true => exact encn_neg w kd reg idx by_ acc val n hv hn ha' l hl5 hbl hF (by omega) hneg
  by_cases h15 : 15 < reg
  · rw [if_pos (.inr (.inl h15))]
    by_cases hi : 0 ≤ idx
    · cases b with
      | false => exact encp_no w kd reg idx by_ acc val n hv hn ha' l hl5 hbl hF hi _ hx
      | true => exact encp_big w kd reg idx by_ acc val n hv hn ha' l hl5 hbl hF hi _ hx (by omega) h15
    · cases b with
      | false => exact encn_no w kd reg idx by_ acc val n hv hn ha' l hl5 hbl hF (by omega)
      | true => exact encn_big w kd reg idx by_ acc val n hv hn ha' l hl5 hbl hF (by omega) (by omega) h15
  by_cases hi15 : 15 < idx
  · rw [if_pos (.inr (.inr hi15))]
    cases b with
    | false => exact encp_no w kd reg idx by_ acc val n hv hn ha' l hl5 hbl hF (by omega) _ hx
    | true => exact encp_far w kd reg idx by_ acc val n hv hn ha' l hl5 hbl hF (by omega) _ hx (by omega) (by omega) hi15
  rw [if_neg (by omega), hf (by omega) (by omega), Int.toNat_natCast]
  cases b with
  | false =>
    rw [if_neg (by decide)]
    by_cases hi : 0 ≤ idx
    · exact encp_no w kd reg idx by_ acc val n hv hn ha' l hl5 hbl hF hi _ hx
    · exact encn_no w kd reg idx by_ acc val n hv hn ha' l hl5 hbl hF (by omega)
  | true =>
    rw [if_pos rfl]
    simp only
    by_cases hi : 0 ≤ idx
    · rw [if_pos hi]
      have hie : ((64 + i : Nat) : Int) = 64 + idx := by have := hii hi (by omega); omega
      rw [hie] at hx
      have hbx : Bys ((64 + idx) :: l) := fun y hy => by
        rcases List.mem_cons.1 hy with rfl | hy
        · omega
        · exact hbl y hy
      cases hq : decD ((64 + idx) :: l) acc n with
      | mk q1 q =>
      obtain ⟨q2, q3, q4, q5, q6⟩ := q
      simp only
      by_cases h6 : q6 = 0
      · by_cases hk : q1 = kd
        · by_cases h12 : kd = 12
          · by_cases he : ((extD val n : Nat) : Int) = (val : Int)
            · rw [if_pos ⟨h6, hk, fun _ => he⟩]
              subst h12
              exact encp_e w reg idx by_ acc val n hv hn ha' l hl5 hbl hF hi _ hx (by omega) (by omega) (by omega) hbx q1 q2 q3 q4 q5 q6 hq h6 hk he
            · rw [if_neg (fun q => he (q.2.2 h12))]
              subst h12
              exact encp_d w reg idx by_ acc val n hv hn ha' l hl5 hbl hF hi _ hx (by omega) (by omega) (by omega) hbx q1 q2 q3 q4 q5 q6 hq h6 hk he
          · rw [if_pos ⟨h6, hk, fun q => absurd q h12⟩]
            exact encp_c w kd reg idx by_ acc val n hv hn ha' l hl5 hbl hF hi _ hx (by omega) (by omega) (by omega) hbx q1 q2 q3 q4 q5 q6 hq h6 hk.symm h12
        · rw [if_neg (fun q => hk q.2.1)]
          exact encp_b w kd reg idx by_ acc val n hv hn ha' l hl5 hbl hF hi _ hx (by omega) (by omega) (by omega) hbx q1 q2 q3 q4 q5 q6 hq h6 hk
      · rw [if_neg (fun q => h6 q.1)]
        exact encp_a w kd reg idx by_ acc val n hv hn ha' l hl5 hbl hF hi _ hx (by omega) (by omega) (by omega) hbx q1 q2 q3 q4 q5 q6 hq h6
    · rw [if_neg hi]
      cases hq : decD l acc n with
      | mk q1 q =>
      obtain ⟨q2, q3, q4, q5, q6⟩ := q
      simp only
      by_cases h6 : q6 = 0
      · by_cases hk : q1 = kd
        · by_cases h12 : kd = 12
          · by_cases he : ((extD val n : Nat) : Int) = (val : Int)
            · rw [if_pos ⟨h6, hk, fun _ => he⟩]
              subst h12
              exact encn_e w reg idx by_ acc val n hv hn ha' l hl5 hbl hF (by omega) (by omega) (by omega) hbl q1 q2 q3 q4 q5 q6 hq h6 hk he
            · rw [if_neg (fun q => he (q.2.2 h12))]
              subst h12
              exact encn_d w reg idx by_ acc val n hv hn ha' l hl5 hbl hF (by omega) (by omega) (by omega) hbl q1 q2 q3 q4 q5 q6 hq h6 hk he
          · rw [if_pos ⟨h6, hk, fun q => absurd q h12⟩]
            exact encn_c w kd reg idx by_ acc val n hv hn ha' l hl5 hbl hF (by omega) (by omega) (by omega) hbl q1 q2 q3 q4 q5 q6 hq h6 hk.symm h12
        · rw [if_neg (fun q => hk q.2.1)]
          exact encn_b w kd reg idx by_ acc val n hv hn ha' l hl5 hbl hF (by omega) (by omega) (by omega) hbl q1 q2 q3 q4 q5 q6 hq h6 hk
      · rw [if_neg (fun q => h6 q.1)]
        exact encn_a w kd reg idx by_ acc val n hv hn ha' l hl5 hbl hF (by omega) (by omega) (by omega) hbl q1 q2 q3 q4 q5 q6 hq h6
set_option maxRecDepth 100000 in
set_option maxHeartbeats 4000000 in
/-- A size that is none. -/
theorem enc_size (w : World) (kd reg idx val by_ acc n : Int) (h : n ≠ 1 ∧ n ≠ 2 ∧ n ≠ 4) :
    Calls Try.prog 33 #[.agg #[.int .i64 kd, .int .i64 reg, .int .i64 idx, .int .u32 val, .int .i64 by_], .agg #[.int .u8 acc, .int .i64 n]] w (EPost w none) := by
  have M := Aside0.mk (fun w => (bits_Mask.calls n 0 w (by unfold bits_Mask.f; rw [if_neg h.1, if_neg h.2.1, if_neg h.2.2])))
  go_enter Try.func33, Try.ntmps33
  go_wp2_with (first
    | (go_at_call 41; (with_reducible refine (M.out _).mono ?_); rintro e w1 ⟨rfl, hb⟩; have B1 := Aside0.mk (below_step (below_alloc (below_alloc (Below.refl w.heap.size w) _) _) hb.below); clear hb))
  go_ret2
  exact ⟨rfl, B1.out⟩
theorem dec_size (w : World) (A : Option Addr) (c : Nat) (l : List Int) (acc n : Int) (h : n ≠ 1 ∧ n ≠ 2 ∧ n ≠ 4) (hr : ReadsInt w .u8 A l.length l) (hc : l.length ≤ c) :
    Calls Try.prog 32 #[.slice A l.length c, .agg #[.int .u8 acc, .int .i64 n]] w fun e w' => e = .returned (.tuple #[.agg #[.int .i64 0, .int .i64 0, .int .i64 0, .int .u32 0, .int .i64 0], .int .i64 1]) ∧ Below w.heap.size w w' :=
  spec_Decode.calls 10 A c l acc n 0 0 0 0 0 1 w (Kd.C_of_reads (d := (0 : Int)) (h1 := fun _ => rfl) hr) hc (by
    have hm : bits_Mask.f n = some 0 := by unfold bits_Mask.f; rw [if_neg h.1, if_neg h.2.1, if_neg h.2.2]
    unfold spec_Decode.f
    rw [hm]
    rfl)
end Go.Proofs.Ytbgcbnlpjjhmhaa.SpecWalk
