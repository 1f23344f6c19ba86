/- MmuMarks, walked. -/
import Derived.Test.YtiogbgjeimdgmaaMmvD
import Derived.Test.YtiogbgjeimdgmaaWSized
namespace Go.Proofs.YtiogbgjeimdgmaaW.PrintWords
open Go.RowKit in
def IsRow (k : IntKind) (w : World) (a : Option Addr) (len cap : Nat) (zs : List Int) : Prop :=
  (a = none ∧ len = 0 ∧ cap = 0 ∧ zs = []) ∨
  ∃ x, a = some x ∧ len ≤ cap ∧ cap ≤ maxLen ∧ zs.length = cap ∧ (∀ i, i < zs.length → w.cell? (x.add i) = some (.int k (zs.getD i 0))) ∧ ∀ n ∈ zs, (Lit.int k n).wf = true
end Go.Proofs.YtiogbgjeimdgmaaW.PrintWords
namespace Go.Proofs.Ytiogbgjeimdgmaa.MmuWalk
open Go.RowKit Go.Proofs.Ytiogbgjeimdgmaa.Aid Go.Proofs.YtiogbgjeimdgmaaW.PrintWords Go.Proofs.YtiogbgjeimdgmaaW.PrintLast Go.Proofs.YtiogbgjeimdgmaaW.PrintMore
open Go.Proofs.Ytiogbgjeimdgmaa.RamWalk (RamAt Bytes leN new_nat put_i load_n zeros_bytes putL putL_bytes putL_length own_cell)
open Go.Proofs.Ytiogbgjeimdgmaa.TlbWalk (TlbAt Kept2 putP dropP posP posP_page entP nil2 own_some own_val own_then)
attribute [local go_sem] max2_int min2_int max_two min_two max_three min_three max_four min_four   -- for this text's walks alone
set_option linter.unusedVariables false
set_option linter.unusedSimpArgs false
theorem marks_off (fr at_ x : Int) (wt : Bool) (w : World) (h : 6 < fr ∨ fr = 0 ∨ 508 < at_) :
    Calls Try.prog 9 #[.int .u32 fr, .int .u32 at_, .int .u32 x, .bool wt] w fun e w' => e = .returned (.bool true) ∧ Below w.heap.size w w' := by
  by_cases h1 : 6 < fr
  · clear h
    go_enter Try.func9, Try.ntmps9
    go_wp2_with (first
      | (go_at_call 28; (with_reducible refine (malive_call _).mono ?_); rintro e w0 ⟨rfl, hb0⟩; have B0 := Aside0.mk hb0; clear hb0))
    go_ret
    exact ⟨rfl, B0.out⟩
  · by_cases h2 : fr = 0
    · clear h
      go_enter Try.func9, Try.ntmps9
      go_wp2_with (first
        | (go_at_call 28; (with_reducible refine (malive_call _).mono ?_); rintro e w0 ⟨rfl, hb0⟩; have B0 := Aside0.mk hb0; clear hb0))
      go_ret
      exact ⟨rfl, B0.out⟩
    · have h3 : 508 < at_ := by omega
      have h4 : (fr == 0) = false := beq_eq_false_iff_ne.mpr h2
      clear h h2
      go_enter Try.func9, Try.ntmps9
      go_wp2_with (first
        | (go_at_call 28; (with_reducible refine (malive_call _).mono ?_); rintro e w0 ⟨rfl, hb0⟩; have B0 := Aside0.mk hb0; clear hb0))
      go_ret
      exact ⟨rfl, B0.out⟩
set_option maxRecDepth 100000 in
set_option maxHeartbeats 8000000 in
theorem marks_yes (fr at_ x : Int) (w : World) (hf0 : 1 ≤ fr) (hf1 : fr ≤ 6) (h0 : 0 ≤ at_) (h1 : at_ ≤ 508) (hx : R32 x) :
    Calls Try.prog 9 #[.int .u32 fr, .int .u32 at_, .int .u32 x, .bool true] w fun e w' => e = .returned (.bool true) ∧ Below w.heap.size w w' := by
  have g1 : ¬ 6 < fr := by omega
  have g2 : (fr == 0) = false := beq_eq_false_iff_ne.mpr (by omega)
  have g3 : ¬ 508 < at_ := by omega
  obtain ⟨l, hl⟩ : ∃ l, lM fr = l := ⟨_, rfl⟩
  obtain ⟨k, hk⟩ : ∃ k, lW fr at_ x = k := ⟨_, rfl⟩
  obtain ⟨X, hX⟩ : ∃ X, 2550136832 + fr = X := ⟨_, rfl⟩
  obtain ⟨Y, hY⟩ : ∃ Y, 2617245696 + fr = Y := ⟨_, rfl⟩
  obtain ⟨P, hP⟩ : ∃ P, fr * 512 + at_ = P := ⟨_, rfl⟩
  have e1 : 2550136832 + fr = X := hX
  have e5 : X % 4294967296 = X := by omega
  have e2 : X + 67108864 = Y := by omega
  have e6 : Y % 4294967296 = Y := by omega
  have e3 : 512 * fr % 4294967296 = 512 * fr := by omega
  have e4 : 512 * fr + at_ = P := by omega
  have e7 : P % 4294967296 = P := by omega
  have ent1 := (entM1 fr (by omega) hf1).1
  have ent2 := entM2 fr (by omega) hf1
  have L0 := Aside0.mk (hl ▸ lM_length fr)
  have K0 := Aside0.mk (hk ▸ lW_length fr at_ x h0 h1 hf0 hf1)
  have LB := Aside0.mk (hl ▸ lM_bytes fr)
  have HX := Aside0.mk hx
  have HA := Aside0.mk (show R32 at_ from ⟨h0, by omega⟩)
  have HPr := Aside0.mk (show 0 ≤ P ∧ P < 4294967296 ∧ P + 4 ≤ 4096 by omega)
  have PB := Aside0.mk (hP ▸ hl ▸ hX ▸ pcsM1 ent1 (lM fr) at_ true h0 h1 (by omega) hf1 (lM_length fr) (lM_head fr (by omega) hf1))
  have PP := Aside0.mk (hP ▸ hl ▸ hX ▸ pcsM2 ent1 (lM fr) at_ true h0 h1 (by omega) hf1 (lM_length fr))
  have PG := Aside0.mk (hP ▸ hk ▸ hY ▸ pcsM2 ent2 (lW fr at_ x) at_ false h0 h1 (by omega) hf1 (lW_length fr at_ x h0 h1 hf0 hf1))
  have ST := Aside0.mk (hP ▸ hl ▸ hk ▸ hX ▸ hY ▸ storeM fr at_ x h0 h1 hf0 hf1)
  have RH := Aside0.mk (hk ▸ hY ▸ lW_head fr at_ x h0 h1 hf0 hf1)
  have RA := Aside0.mk (hP ▸ hk ▸ lW_at fr at_ x hx h0 h1 hf0 hf1)
  have XR := Aside0.mk (show 0 ≤ X ∧ X < 4294967296 by omega)
  have LM := Aside0.mk (show putL (List.replicate 4096 0) (0 : Int).toNat X (4 : Int).toNat = l by rw [← hl, ← hX]; rfl)
  have LG : Aside0 (leN (loadL k [(at_, P, 4)]) = x) := ⟨by
    have := RA.out
    show leN ((k.drop P.toNat).take 4 ++ []) = x
    rw [List.append_nil]; exact this⟩
  have QH := Aside0.mk (fun w0 W L ps (h : M1 w0 W L tM ps k) => qrget w0 W L tM ps k 0 Y (by decide) (by decide) (by rw [K0.out]; decide) RH.out h)
  have QA := Aside0.mk (fun w0 W L ps (h : M1 w0 W L tM ps k) => qrget w0 W L tM ps k P x HPr.out.1 HPr.out.2.1 (by rw [K0.out]; exact HPr.out.2.2) RA.out h)
  clear hf0 hf1 h0 h1 hx hl hk hX hY hP ent1 ent2
  go_enter Try.func9, Try.ntmps9
  go_wp2_with (first
    | (go_at_call 28; (with_reducible refine (malive_call _).mono ?_); rintro e w0 ⟨rfl, hb0⟩; have B0 := Aside0.mk hb0; clear hb0)
    | (go_at_call 14; refine (new_nat 4096 _ (by decide)).mono ?_; rintro e w1 ⟨gr, b, rfl, hr, hbel⟩; have R1 := Aside0.mk hr; have B1 := Aside0.mk hbel; clear hr hbel)
    | (go_at_call 39; (with_reducible refine (put_i _ _ _ _ _ _ _ 0 4 X XR.out.1 XR.out.2 (by decide) (by decide) R1.out (by decide) (by decide) (by decide)).mono ?_); rintro e w2 ⟨rfl, hr, hg⟩; have Q2 := Aside0.mk (show RamAt w2 w0.heap.size gr (.slice (some ⟨b, 0, none⟩) 4096 4096) l by rw [← LM.out]; exact hr); have B2 := Aside0.mk (ram_below1 B1.out R1.out hg); clear hr hg)
    | (go_at_call 18; (with_reducible refine (qnew w0 _ _ _ _ 4096 l L0.out B2.out Q2.out LB.out).mono ?_); rintro e w3 ⟨L, rfl, rfl, hm3⟩; have M3 := Aside0.mk hm3; clear hm3)
    | (go_at_call 20; refine (qset w0 _ L _ tM _ l M3.out tM_ok).mono ?_; rintro e w4 ⟨rfl, hm4⟩; have M4 := Aside0.mk hm4; clear hm4)
    | (go_at_call 35; (with_reducible refine (qprobe_is w0 _ L tM [] l at_ 4 true true HA.out (by decide) (by decide) _ 0 0 0 _ PB.out M4.out).mono ?_); rintro e w5 ⟨rfl, m, _, _⟩; have M5 := Aside0.mk (m.then (below_alloc (Below.refl _ w5) (.cells #[.int .i64 0, .int .u32 0, .int .u32 0] 47 (0, 0)))); have Y5 := Aside0.mk (heap_alloc_new w5 (.cells #[.int .i64 0, .int .u32 0, .int .u32 0] 47 (0, 0))); have B5 := Aside0.mk m.1.size; clear m)
    | (go_at_call 40; (with_reducible refine (qput_is w0 _ L tM _ l at_ x 4 true HA.out HX.out _ 0 0 0 _ PP.out M5.out).mono ?_); rintro e w6 ⟨rfl, m, st, _⟩; have M6 := Aside0.mk (show M1 w0 w6 L tM [(0, Y)] k by have e := ST.out; rw [show (szI 4).toNat = 4 from by decide] at m; rw [e.1, e.2] at m; exact m); have Y6 := Aside0.mk (st _ _ _ _ Y5.out (by unfold mTy; decide)); clear m st)
    | (refine wpList_store_row rfl 47 (.tmp 11) (.tmp 48) rfl w5.heap.size #[.int .i64 0, .int .u32 0, .int .u32 0] rfl rfl _ _ Y6.out infoF rfl (by kernel_rfl) ?_; have M7 := Aside0.mk (M6.out.setRow B5.out Y6.out (by unfold mTy; decide) #[.int .i64 0, .int .u32 0, .int .u32 0]); have Y7 := Aside0.mk (setRow_heap w6 w5.heap.size #[.int .i64 0, .int .u32 0, .int .u32 0] #[.int .i64 0, .int .u32 0, .int .u32 0] 47 (0, 0) Y6.out))
    | (go_at_call 29; (with_reducible refine (qget_is w0 _ L tM _ k at_ 4 true HA.out _ 0 0 0 _ PG.out M7.out).mono ?_); rintro e w8 ⟨rfl, m, st, _⟩; rw [LG.out]; have M8 := Aside0.mk (m.then (below_alloc (Below.refl _ w8) (.cells #[.int .i64 0, .int .u32 0, .int .u32 0] 47 (0, 0)))); have Y8 := Aside0.mk (row_then (st _ _ _ _ Y7.out (by unfold mTy; decide)) (below_alloc (Below.refl _ w8) (.cells #[.int .i64 0, .int .u32 0, .int .u32 0] 47 (0, 0)))); have y0 := cell_of_row _ _ 0 _ _ _ Y8.out; clear m st)
    | (go_at_call 41; (with_reducible refine (QH.out w0 _ L _ M8.out).mono ?_); rintro e w9 ⟨rfl, rfl⟩)
    | (go_at_call 41; (with_reducible refine (QA.out w0 _ L _ M8.out).mono ?_); rintro e w9 ⟨rfl, rfl⟩))
  go_ret
  exact ⟨rfl, below_step B0.out M8.out.1⟩
set_option maxRecDepth 100000 in
set_option maxHeartbeats 8000000 in
theorem marks_no (fr at_ x : Int) (w : World) (hf0 : 1 ≤ fr) (hf1 : fr ≤ 6) (h0 : 0 ≤ at_) (h1 : at_ ≤ 508) :
    Calls Try.prog 9 #[.int .u32 fr, .int .u32 at_, .int .u32 x, .bool false] w fun e w' => e = .returned (.bool true) ∧ Below w.heap.size w w' := by
  have g1 : ¬ 6 < fr := by omega
  have g2 : (fr == 0) = false := beq_eq_false_iff_ne.mpr (by omega)
  have g3 : ¬ 508 < at_ := by omega
  obtain ⟨l, hl⟩ : ∃ l, lM fr = l := ⟨_, rfl⟩
  obtain ⟨X, hX⟩ : ∃ X, 2550136832 + fr = X := ⟨_, rfl⟩
  obtain ⟨P, hP⟩ : ∃ P, fr * 512 + at_ = P := ⟨_, rfl⟩
  have e1 : 2550136832 + fr = X := hX
  have e5 : X % 4294967296 = X := by omega
  have e3 : 512 * fr % 4294967296 = 512 * fr := by omega
  have e4 : 512 * fr + at_ = P := by omega
  have e7 : P % 4294967296 = P := by omega
  have ent1 := (entM1 fr (by omega) hf1).1
  have L0 := Aside0.mk (hl ▸ lM_length fr)
  have LB := Aside0.mk (hl ▸ lM_bytes fr)
  have HA := Aside0.mk (show R32 at_ from ⟨h0, by omega⟩)
  have HPr := Aside0.mk (show 0 ≤ P ∧ P < 4294967296 ∧ P + 4 ≤ 4096 by omega)
  have PB := Aside0.mk (hP ▸ hl ▸ hX ▸ pcsM1 ent1 (lM fr) at_ true h0 h1 (by omega) hf1 (lM_length fr) (lM_head fr (by omega) hf1))
  have PG := Aside0.mk (hP ▸ hl ▸ hX ▸ pcsM2 ent1 (lM fr) at_ false h0 h1 (by omega) hf1 (lM_length fr))
  have RH := Aside0.mk (hl ▸ hX ▸ lM_head fr (by omega) hf1)
  have RA := Aside0.mk (hl ▸ lM_zero fr P (by omega))
  have XR := Aside0.mk (show 0 ≤ X ∧ X < 4294967296 by omega)
  have LM := Aside0.mk (show putL (List.replicate 4096 0) (0 : Int).toNat X (4 : Int).toNat = l by rw [← hl, ← hX]; rfl)
  have LG : Aside0 (leN (loadL l [(at_, P, 4)]) = 0) := ⟨by
    have := RA.out
    show leN ((l.drop P.toNat).take 4 ++ []) = 0
    rw [List.append_nil]; exact this⟩
  have QH := Aside0.mk (fun w0 W L ps (h : M1 w0 W L tM ps l) => qrget w0 W L tM ps l 0 X (by decide) (by decide) (by rw [L0.out]; decide) RH.out h)
  have QA := Aside0.mk (fun w0 W L ps (h : M1 w0 W L tM ps l) => qrget w0 W L tM ps l P 0 HPr.out.1 HPr.out.2.1 (by rw [L0.out]; exact HPr.out.2.2) RA.out h)
  clear hf0 hf1 h0 h1 hl hX hP ent1
  go_enter Try.func9, Try.ntmps9
  go_wp2_with (first
    | (go_at_call 28; (with_reducible refine (malive_call _).mono ?_); rintro e w0 ⟨rfl, hb0⟩; have B0 := Aside0.mk hb0; clear hb0)
    | (go_at_call 14; refine (new_nat 4096 _ (by decide)).mono ?_; rintro e w1 ⟨gr, b, rfl, hr, hbel⟩; have R1 := Aside0.mk hr; have B1 := Aside0.mk hbel; clear hr hbel)
    | (go_at_call 39; (with_reducible refine (put_i _ _ _ _ _ _ _ 0 4 X XR.out.1 XR.out.2 (by decide) (by decide) R1.out (by decide) (by decide) (by decide)).mono ?_); rintro e w2 ⟨rfl, hr, hg⟩; have Q2 := Aside0.mk (show RamAt w2 w0.heap.size gr (.slice (some ⟨b, 0, none⟩) 4096 4096) l by rw [← LM.out]; exact hr); have B2 := Aside0.mk (ram_below1 B1.out R1.out hg); clear hr hg)
    | (go_at_call 18; (with_reducible refine (qnew w0 _ _ _ _ 4096 l L0.out B2.out Q2.out LB.out).mono ?_); rintro e w3 ⟨L, rfl, rfl, hm3⟩; have M3 := Aside0.mk hm3; clear hm3)
    | (go_at_call 20; refine (qset w0 _ L _ tM _ l M3.out tM_ok).mono ?_; rintro e w4 ⟨rfl, hm4⟩; have M4 := Aside0.mk hm4; clear hm4)
    | (go_at_call 35; (with_reducible refine (qprobe_is w0 _ L tM [] l at_ 4 true true HA.out (by decide) (by decide) _ 0 0 0 _ PB.out M4.out).mono ?_); rintro e w5 ⟨rfl, m, _, _⟩; have M5 := Aside0.mk (m.then (below_alloc (Below.refl _ w5) (.cells #[.int .i64 0, .int .u32 0, .int .u32 0] 47 (0, 0)))); have Y5 := Aside0.mk (heap_alloc_new w5 (.cells #[.int .i64 0, .int .u32 0, .int .u32 0] 47 (0, 0))); clear m)
    | (go_at_call 29; (with_reducible refine (qget_is w0 _ L tM _ l at_ 4 true HA.out _ 0 0 0 _ PG.out M5.out).mono ?_); rintro e w8 ⟨rfl, m, st, _⟩; rw [LG.out]; have M8 := Aside0.mk (m.then (below_alloc (Below.refl _ w8) (.cells #[.int .i64 0, .int .u32 0, .int .u32 0] 47 (0, 0)))); have Y8 := Aside0.mk (row_then (st _ _ _ _ Y5.out (by unfold mTy; decide)) (below_alloc (Below.refl _ w8) (.cells #[.int .i64 0, .int .u32 0, .int .u32 0] 47 (0, 0)))); have y0 := cell_of_row _ _ 0 _ _ _ Y8.out; clear m st)
    | (go_at_call 41; (with_reducible refine (QH.out w0 _ L _ M8.out).mono ?_); rintro e w9 ⟨rfl, rfl⟩)
    | (go_at_call 41; (with_reducible refine (QA.out w0 _ L _ M8.out).mono ?_); rintro e w9 ⟨rfl, rfl⟩))
  go_ret
  exact ⟨rfl, below_step B0.out M8.out.1⟩
theorem MmuMarks_walk (fr at_ x : Int) (wt : Bool) (w : World) (hf : (Lit.int .u32 fr).wf = true) (ha : (Lit.int .u32 at_).wf = true) (hx : (Lit.int .u32 x).wf = true) :
    Calls Try.prog 9 #[.int .u32 fr, .int .u32 at_, .int .u32 x, .bool wt] w fun e w' => e = .returned (.bool true) ∧ Below w.heap.size w w' := by
  have r : ∀ {x : Int}, (Lit.int .u32 x).wf = true → R32 x := fun {x} h => by
    obtain ⟨n, rfl, hn⟩ := u32_nat h
    unfold R32; omega
  have h1 := r hf
  have h2 := r ha
  have h3 := r hx
  by_cases h : 6 < fr ∨ fr = 0 ∨ 508 < at_
  · exact marks_off fr at_ x wt w h
  · have a1 := h1.1
    have a2 := h2.1
    cases wt
    · exact marks_no fr at_ x w (by omega) (by omega) a2 (by omega)
    · exact marks_yes fr at_ x w (by omega) (by omega) a2 (by omega) h3
end Go.Proofs.Ytiogbgjeimdgmaa.MmuWalk
