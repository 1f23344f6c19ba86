/- The lines' functions of layer 22, walked: heap's down; Push, Pop. -/
import Derived.Test.YtbgcbnlpjjhmhaaLinesD
namespace Go.Proofs.Ytbgcbnlpjjhmhaa.LinesWalk
open Go.RowKit Go.Proofs.Ytbgcbnlpjjhmhaa.Aid Go.Proofs.YtbgcbnlpjjhmhaaW.PrintWords Go.Proofs.YtbgcbnlpjjhmhaaW.PrintLast Go.Proofs.YtbgcbnlpjjhmhaaW.PrintMore Go.Proofs.Ytbgcbnlpjjhmhaa.HeapLaw
attribute [local go_sem] max2_int min2_int max_two min_two max_three min_three max_four min_four   -- for this text's walks alone
set_option linter.unusedVariables false
set_option linter.unusedSimpArgs false
theorem downL_end {f i n : Nat} {q : List Ent} (h : n ≤ 2 * i + 1) : downL f q i n = q := by
  cases f with
  | zero => rfl
  | succ f => unfold downL; rw [if_pos h]
theorem downL_yes {f i n : Nat} {q : List Ent} (h : ¬ n ≤ 2 * i + 1) (hl : ltE (gE q (kidL q i n)) (gE q i) = true) : downL (f + 1) q i n = downL f (swapL q i (kidL q i n)) (kidL q i n) n := by
  conv => lhs; unfold downL
  rw [if_neg h, if_pos hl]
theorem downL_no {f i n : Nat} {q : List Ent} (h : ¬ n ≤ 2 * i + 1) (hl : ltE (gE q (kidL q i n)) (gE q i) = false) : downL (f + 1) q i n = q := by
  conv => lhs; unfold downL
  rw [if_neg h, if_neg (by rw [hl]; decide)]
set_option maxRecDepth 100000 in
set_option maxHeartbeats 2000000 in
theorem down_call (w : World) (base g m n : Nat) (v : Value) (q : List Ent) (rest : List Value) (h : QAt w base g v q rest) (hq : q.length = m) (hm : 0 < m) (hn : n ≤ m) :
    Calls Try.prog 51 #[.iface 86 (.pointer (some ⟨g, 0, none⟩)), .int .i64 0, .int .i64 n] w fun e' w' => (∃ bb, e' = .returned (.bool bb)) ∧ QPost w w' base g v (downL n q 0 n) rest := by
  obtain ⟨b, c, rfl⟩ := h.shape hq hm
  have H := Aside0.mk h
  have hl := h.len
  have hn2 : (n : Int) ≤ 4096 := by omega
  clear h
  go_enter Try.func51, Try.ntmps51
  go_wp2
  go_loopw [7] (fun iv wr => ∃ (k f : Nat) (qk : List Ent), n ≤ f + k ∧ k < m ∧ iv = .int .i64 k ∧ qk.length = m ∧ Aside0 (downL n q 0 n = downL f qk k n ∧ QAt wr base g (.slice (some ⟨b, 0, none⟩) m c) qk rest ∧ Kept2 w wr g (some b))) (fun iv _ => n - (intOf iv).toNat)
  case atStart => exact ⟨0, n, q, by omega, hm, rfl, hq, ⟨rfl, H.out, Kept2.of_below (Below.refl _ _) _ _⟩⟩
  case round =>
    obtain ⟨k, f, qk, hkf, hk, rfl, hqk, HR⟩ := hrel
    have hf' := HR.out.2.1.field
    by_cases hend : n ≤ 2 * k + 1
    · have R := Aside0.mk (show QPost w wr base g (.slice (some ⟨b, 0, none⟩) m c) (downL n q 0 n) rest by
        rw [HR.out.1, downL_end hend]; exact ⟨_, HR.out.2.1, HR.out.2.2, .inl rfl⟩)
      have he1 : (n : Int) ≤ 2 * (k : Int) + 1 := by omega
      have hk0 : (0 : Int) ≤ k := by omega
      have hk2 : (k : Int) ≤ 4096 := by omega
      clear hkf hk hend
      generalize (k : Int) = x at *
      generalize (n : Int) = y at *
      go_wp2
      go_ret
      exact ⟨⟨_, rfl⟩, R.out⟩
    · obtain ⟨f', rfl⟩ : ∃ f', f = f' + 1 := ⟨f - 1, by omega⟩
      have K := Aside0.mk (show (¬ n ≤ 2 * k + 1 ∧ k < m ∧ n ≤ f' + 1 + k) from ⟨hend, hk, hkf⟩)
      have hks := kidL_spec qk k n (by omega)
      have KS := Aside0.mk hks
      have hx0 : (0 : Int) ≤ k := by omega
      have hx2 : (k : Int) ≤ 4096 := by omega
      have hxn : 2 * (k : Int) + 1 < n := by omega
      have e1 : ((2 * k + 1 : Nat) : Int) = 2 * (k : Int) + 1 := by omega
      have e2 : ((2 * k + 2 : Nat) : Int) = 2 * (k : Int) + 1 + 1 := by omega
      have HQ := Aside0.mk hqk
      have m1 := meth_less wr g _ hf'
      by_cases h2 : 2 * k + 2 < n
      · have hxn2 : 2 * (k : Int) + 1 + 1 < n := by omega
        have hkid : kidL qk k n = if ltE (gE qk (2 * k + 2)) (gE qk (2 * k + 1)) = true then 2 * k + 2 else 2 * k + 1 := by
          unfold kidL
          by_cases hc : ltE (gE qk (2 * k + 2)) (gE qk (2 * k + 1)) = true
          · rw [if_pos ⟨h2, hc⟩, if_pos hc]
          · rw [if_neg (fun q => hc q.2), if_neg hc]
        have L1 := less_call wr base b m c (2 * k + 2) (2 * k + 1) qk hqk HR.out.2.1.row (by omega) (by omega)
        rw [e1, e2] at L1
        generalize hb1 : ltE (gE qk (2 * k + 2)) (gE qk (2 * k + 1)) = b1 at *
        cases b1 with
        | true =>
          rw [if_pos rfl] at hkid
          have L2 := fun w1 (hr : QRow w1 base (.slice (some ⟨b, 0, none⟩) m c) qk) => less_call w1 base b m c (2 * k + 2) k qk hqk hr (by omega) hk
          have SC := fun w1 (hr : QRow w1 base (.slice (some ⟨b, 0, none⟩) m c) qk) => swap_call w1 base b m c k (2 * k + 2) qk hqk hr hk (by omega) (by omega)
          rw [e2] at L2 SC
          rw [← hkid] at L2 SC
          have EK := Aside0.mk (show ((kidL qk k n : Nat) : Int) = 2 * (k : Int) + 1 + 1 from by rw [hkid]; exact e2)
          generalize hb2 : ltE (gE qk (kidL qk k n)) (gE qk k) = b2 at *
          have HB := Aside0.mk hb2
          clear hkf hk hend hks h2 hkid e1 e2 hb2 hqk
          generalize hx : (k : Int) = x at *
          generalize hy : (n : Int) = y at *
          have HX := Aside0.mk hx
          clear hx hy
          have L2 := Aside0.mk L2
          have SC := Aside0.mk SC
          have L1 := Aside0.mk L1
          cases b2 with
          | false =>
            go_wp2_with (first
              | (go_at_call 74; (with_reducible refine (L1.out).mono ?_); rintro e w1 ⟨rfl, hb⟩; have Q1 := Aside0.mk (HR.out.2.1.then hb); have K1 := Aside0.mk (HR.out.2.2.trans (Kept2.of_below hb g none) (.inr (fun k hk => by simp at hk))); have m2 := meth_less w1 g _ Q1.out.field; clear hb)
              | (go_at_call 74; (with_reducible refine (L2.out _ Q1.out.row).mono ?_); rintro e w2 ⟨rfl, hb⟩; have Q2 := Aside0.mk (Q1.out.then hb); have K2 := Aside0.mk (K1.out.trans (Kept2.of_below hb g none) (.inr (fun k hk => by simp at hk))); clear hb))
            go_ret
            refine ⟨⟨_, rfl⟩, _, ?_, K2.out, .inl rfl⟩
            rw [HR.out.1, downL_no K.out.1 HB.out]
            exact Q2.out
          | true =>
            go_wp2_with (first
              | (go_at_call 74; (with_reducible refine (L1.out).mono ?_); rintro e w1 ⟨rfl, hb⟩; have Q1 := Aside0.mk (HR.out.2.1.then hb); have K1 := Aside0.mk (HR.out.2.2.trans (Kept2.of_below hb g none) (.inr (fun k hk => by simp at hk))); have m2 := meth_less w1 g _ Q1.out.field; clear hb)
              | (go_at_call 74; (with_reducible refine (L2.out _ Q1.out.row).mono ?_); rintro e w2 ⟨rfl, hb⟩; have Q2 := Aside0.mk (Q1.out.then hb); have K2 := Aside0.mk (K1.out.trans (Kept2.of_below hb g none) (.inr (fun k hk => by simp at hk))); have m3 := meth_swap w2 g _ Q2.out.field; clear hb m1)
              | (go_at_call 75; (with_reducible refine (SC.out _ Q2.out.row).mono ?_); rintro e w3 ⟨rfl, hr, hg⟩; have Q3 := Aside0.mk (Q2.out.swap hr (swapL_length _ _ _) hg); have K3 := Aside0.mk (K2.out.grown hg (.inl rfl)); clear hr hg m3))
            go_roundw
            case rel => exact ⟨kidL qk k n, f', swapL qk k (kidL qk k n), by have := K.out; have := KS.out; omega, by have := KS.out; have := K.out; omega, by rw [EK.out], by rw [swapL_length]; exact HQ.out, ⟨by rw [HR.out.1]; exact downL_yes K.out.1 HB.out, Q3.out, K3.out⟩⟩
            case measure => have := K.out; have := HX.out; simp [intOf]; omega
        | false =>
          rw [if_neg (by decide)] at hkid
          have L2 := fun w1 (hr : QRow w1 base (.slice (some ⟨b, 0, none⟩) m c) qk) => less_call w1 base b m c (2 * k + 1) k qk hqk hr (by omega) hk
          have SC := fun w1 (hr : QRow w1 base (.slice (some ⟨b, 0, none⟩) m c) qk) => swap_call w1 base b m c k (2 * k + 1) qk hqk hr hk (by omega) (by omega)
          rw [e1] at L2 SC
          rw [← hkid] at L2 SC
          have EK := Aside0.mk (show ((kidL qk k n : Nat) : Int) = 2 * (k : Int) + 1 from by rw [hkid]; exact e1)
          generalize hb2 : ltE (gE qk (kidL qk k n)) (gE qk k) = b2 at *
          have HB := Aside0.mk hb2
          clear hkf hk hend hks h2 hkid e1 e2 hb2 hqk
          generalize hx : (k : Int) = x at *
          generalize hy : (n : Int) = y at *
          have HX := Aside0.mk hx
          clear hx hy
          have L2 := Aside0.mk L2
          have SC := Aside0.mk SC
          have L1 := Aside0.mk L1
          cases b2 with
          | false =>
            go_wp2_with (first
              | (go_at_call 74; (with_reducible refine (L1.out).mono ?_); rintro e w1 ⟨rfl, hb⟩; have Q1 := Aside0.mk (HR.out.2.1.then hb); have K1 := Aside0.mk (HR.out.2.2.trans (Kept2.of_below hb g none) (.inr (fun k hk => by simp at hk))); have m2 := meth_less w1 g _ Q1.out.field; clear hb)
              | (go_at_call 74; (with_reducible refine (L2.out _ Q1.out.row).mono ?_); rintro e w2 ⟨rfl, hb⟩; have Q2 := Aside0.mk (Q1.out.then hb); have K2 := Aside0.mk (K1.out.trans (Kept2.of_below hb g none) (.inr (fun k hk => by simp at hk))); clear hb))
            go_ret
            refine ⟨⟨_, rfl⟩, _, ?_, K2.out, .inl rfl⟩
            rw [HR.out.1, downL_no K.out.1 HB.out]
            exact Q2.out
          | true =>
            go_wp2_with (first
              | (go_at_call 74; (with_reducible refine (L1.out).mono ?_); rintro e w1 ⟨rfl, hb⟩; have Q1 := Aside0.mk (HR.out.2.1.then hb); have K1 := Aside0.mk (HR.out.2.2.trans (Kept2.of_below hb g none) (.inr (fun k hk => by simp at hk))); have m2 := meth_less w1 g _ Q1.out.field; clear hb)
              | (go_at_call 74; (with_reducible refine (L2.out _ Q1.out.row).mono ?_); rintro e w2 ⟨rfl, hb⟩; have Q2 := Aside0.mk (Q1.out.then hb); have K2 := Aside0.mk (K1.out.trans (Kept2.of_below hb g none) (.inr (fun k hk => by simp at hk))); have m3 := meth_swap w2 g _ Q2.out.field; clear hb m1)
              | (go_at_call 75; (with_reducible refine (SC.out _ Q2.out.row).mono ?_); rintro e w3 ⟨rfl, hr, hg⟩; have Q3 := Aside0.mk (Q2.out.swap hr (swapL_length _ _ _) hg); have K3 := Aside0.mk (K2.out.grown hg (.inl rfl)); clear hr hg m3))
            go_roundw
            case rel => exact ⟨kidL qk k n, f', swapL qk k (kidL qk k n), by have := K.out; have := KS.out; omega, by have := KS.out; have := K.out; omega, by rw [EK.out], by rw [swapL_length]; exact HQ.out, ⟨by rw [HR.out.1]; exact downL_yes K.out.1 HB.out, Q3.out, K3.out⟩⟩
            case measure => have := K.out; have := HX.out; simp [intOf]; omega
      · have hxn2 : ¬ 2 * (k : Int) + 1 + 1 < n := by omega
        have hkid : kidL qk k n = 2 * k + 1 := by unfold kidL; rw [if_neg (fun q => h2 q.1)]
        have L2 := fun w1 (hr : QRow w1 base (.slice (some ⟨b, 0, none⟩) m c) qk) => less_call w1 base b m c (2 * k + 1) k qk hqk hr (by omega) hk
        have SC := fun w1 (hr : QRow w1 base (.slice (some ⟨b, 0, none⟩) m c) qk) => swap_call w1 base b m c k (2 * k + 1) qk hqk hr hk (by omega) (by omega)
        rw [e1] at L2 SC
        rw [← hkid] at L2 SC
        have EK := Aside0.mk (show ((kidL qk k n : Nat) : Int) = 2 * (k : Int) + 1 from by rw [hkid]; exact e1)
        generalize hb2 : ltE (gE qk (kidL qk k n)) (gE qk k) = b2 at *
        have HB := Aside0.mk hb2
        clear hkf hk hend hks h2 hkid e1 e2 hb2 hqk
        generalize hx : (k : Int) = x at *
        generalize hy : (n : Int) = y at *
        have HX := Aside0.mk hx
        clear hx hy
        have L2 := Aside0.mk L2
        have SC := Aside0.mk SC
        have Q1 := Aside0.mk HR.out.2.1
        have K1 := Aside0.mk HR.out.2.2
        cases b2 with
        | false =>
          go_wp2_with (first
            | (go_at_call 74; (with_reducible refine (L2.out _ Q1.out.row).mono ?_); rintro e w2 ⟨rfl, hb⟩; have Q2 := Aside0.mk (Q1.out.then hb); have K2 := Aside0.mk (K1.out.trans (Kept2.of_below hb g none) (.inr (fun k hk => by simp at hk))); clear hb))
          go_ret
          refine ⟨⟨_, rfl⟩, _, ?_, K2.out, .inl rfl⟩
          rw [HR.out.1, downL_no K.out.1 HB.out]
          exact Q2.out
        | true =>
          go_wp2_with (first
            | (go_at_call 74; (with_reducible refine (L2.out _ Q1.out.row).mono ?_); rintro e w2 ⟨rfl, hb⟩; have Q2 := Aside0.mk (Q1.out.then hb); have K2 := Aside0.mk (K1.out.trans (Kept2.of_below hb g none) (.inr (fun k hk => by simp at hk))); have m3 := meth_swap w2 g _ Q2.out.field; clear hb m1)
            | (go_at_call 75; (with_reducible refine (SC.out _ Q2.out.row).mono ?_); rintro e w3 ⟨rfl, hr, hg⟩; have Q3 := Aside0.mk (Q2.out.swap hr (swapL_length _ _ _) hg); have K3 := Aside0.mk (K2.out.grown hg (.inl rfl)); clear hr hg m3))
          go_roundw
          case rel => exact ⟨kidL qk k n, f', swapL qk k (kidL qk k n), by have := K.out; have := KS.out; omega, by have := KS.out; have := K.out; omega, by rw [EK.out], by rw [swapL_length]; exact HQ.out, ⟨by rw [HR.out.1]; exact downL_yes K.out.1 HB.out, Q3.out, K3.out⟩⟩
          case measure => have := K.out; have := HX.out; simp [intOf]; omega
end Go.Proofs.Ytbgcbnlpjjhmhaa.LinesWalk
