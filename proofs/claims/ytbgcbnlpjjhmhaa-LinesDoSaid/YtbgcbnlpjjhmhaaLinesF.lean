/- The lines' functions of layer 22, walked: heap's Push, Pop. -/
import Derived.Test.YtbgcbnlpjjhmhaaLinesE
namespace Go.Proofs.Ytbgcbnlpjjhmhaa.LinesWalk
open Go.RowKit Go.Proofs.Ytbgcbnlpjjhmhaa.Aid Go.Proofs.YtbgcbnlpjjhmhaaW.PrintWords Go.Proofs.YtbgcbnlpjjhmhaaW.PrintLast Go.Proofs.YtbgcbnlpjjhmhaaW.PrintMore Go.Proofs.Ytbgcbnlpjjhmhaa.HeapLaw
attribute [local go_sem] max2_int min2_int max_two min_two max_three min_three max_four min_four   -- for this text's walks alone
set_option linter.unusedVariables false
set_option linter.unusedSimpArgs false
set_option maxRecDepth 100000 in
theorem hpush_call (w : World) (base g : Nat) (v : Value) (q : List Ent) (rest : List Value) (e : Ent) (h : QAt w base g v q rest) (hl : q.length < 4096) :
    Calls Try.prog 37 #[.iface 86 (.pointer (some ⟨g, 0, none⟩)), .iface 88 (.agg #[.int .i64 e.cy, .int .i64 e.lv, .bool e.on, .int .i64 e.nm])] w fun e' w' => e' = .returned (.tuple #[]) ∧ QPost w w' base g v (pushL q e) rest := by
  have PC := Aside0.mk (qpush_call w base g v q rest e h hl)
  have m1 := meth_push w g
  have hql : (q ++ [e]).length = q.length + 1 := by simp
  have hn : (q.length : Int) < 4096 := by omega
  have FIN : Aside0 (∀ w1 w2 v1, (QAt w1 base g v1 (q ++ [e]) rest ∧ Kept2 w w1 g v.ownBlock ∧ NewRow w v v1) → QPost w1 w2 base g v1 (upL q.length (q ++ [e]) q.length) rest → QPost w w2 base g v (pushL q e) rest) := ⟨fun w1 w2 v1 h1 h2 => QPost.trans ⟨v1, h1, h2⟩⟩
  clear h
  generalize pushL q e = pq at *
  generalize hq2 : q ++ [e] = q2 at *
  clear hq2
  have HQL := Aside0.mk hql
  clear hql
  obtain ⟨e0, e1, e2, e3⟩ := e
  go_enter Try.func37, Try.ntmps37
  go_wp2_with (first
    | (go_at_call 77; (with_reducible refine (PC.out).mono ?_); rintro e w1 ⟨rfl, v1, hq1, hk1, hr1⟩; obtain ⟨b, c, rfl⟩ := hq1.shape HQL.out (by omega); have Q1 := Aside0.mk hq1; have K1 := Aside0.mk (And.intro hk1 hr1); have m2 := meth_len w1 g _ hq1.field; clear hq1 hk1 hr1 m1)
    | (go_at_call 73; (with_reducible refine (len_call _ _ _ _).mono ?_); rintro e w2 ⟨rfl, rfl⟩; clear m2)
    | (go_at_call 50; (with_reducible refine (up_call _ _ _ _ _ _ _ q.length Q1.out HQL.out (by omega)).mono ?_); rintro e w3 ⟨rfl, hq⟩; have Q3 := Aside0.mk (FIN.out _ _ _ ⟨Q1.out, K1.out.1, K1.out.2⟩ hq); clear hq))
  go_end0
  exact ⟨rfl, Q3.out⟩
set_option maxRecDepth 100000 in
theorem hpop_call (w : World) (base g n : Nat) (v : Value) (q : List Ent) (rest : List Value) (h : QAt w base g v q rest) (hq : q.length = n + 1) :
    Calls Try.prog 38 #[.iface 86 (.pointer (some ⟨g, 0, none⟩))] w fun e' w' => e' = .returned (.iface 88 (agg4 (gE (downL n (swapL q 0 n) 0 n) n))) ∧ QPost w w' base g v ((downL n (swapL q 0 n) 0 n).take n) rest := by
  obtain ⟨b, c, rfl⟩ := h.shape hq (by omega)
  have hl := h.len
  have hn : (n : Int) < 4096 := by omega
  have H := Aside0.mk h
  have m1 := meth_len w g _ h.field
  have m2 := meth_swap w g _ h.field
  have m3 := fun w => meth_pop w g
  have SC := swap_call w base b (n + 1) c 0 n q hq h.row (by omega) (by omega) (by omega)
  have SC := Aside0.mk (show Calls Try.prog 75 #[.slice (some ⟨b, 0, none⟩) (n + 1) c, .int .i64 0, .int .i64 n] w fun e w' => e = .returned (.tuple #[]) ∧ QRow w' base (.slice (some ⟨b, 0, none⟩) (n + 1) c) (swapL q 0 n) ∧ w.grownBy w' (some b) from SC)
  have hsl : (swapL q 0 n).length = n + 1 := by rw [swapL_length]; exact hq
  have hdl : (downL n (swapL q 0 n) 0 n).length = n + 1 := by rw [downL_length]; exact hsl
  have SW : Aside0 (∀ w1, QRow w1 base (.slice (some ⟨b, 0, none⟩) (n + 1) c) (swapL q 0 n) → w.grownBy w1 (some b) → QAt w1 base g (.slice (some ⟨b, 0, none⟩) (n + 1) c) (swapL q 0 n) rest) := ⟨fun w1 hr hg => h.swap hr (swapL_length _ _ _) hg⟩
  have DC := Aside0.mk (fun w1 (h1 : QAt w1 base g (.slice (some ⟨b, 0, none⟩) (n + 1) c) (swapL q 0 n) rest) => down_call w1 base g (n + 1) n _ _ rest h1 hsl (by omega) (by omega))
  have PC := Aside0.mk (fun w1 v1 (h1 : QAt w1 base g v1 (downL n (swapL q 0 n) 0 n) rest) => qpop_call w1 base g n v1 _ rest h1 hdl)
  clear h hsl hdl hq
  unfold agg4 at PC ⊢
  generalize gE (downL n (swapL q 0 n) 0 n) n = E at *
  generalize downL n (swapL q 0 n) 0 n = q2 at *
  generalize swapL q 0 n = q1 at *
  go_enter Try.func38, Try.ntmps38
  go_wp2_with (first
    | (go_at_call 73; (with_reducible refine (len_call _ _ _ _).mono ?_); rintro e w2 ⟨rfl, rfl⟩; clear m1)
    | (go_at_call 75; (with_reducible refine (SC.out).mono ?_); rintro e w1 ⟨rfl, hr, hg⟩; have Q1 := Aside0.mk (SW.out _ hr hg); have K1 := Aside0.mk ((Kept2.of_below (Below.refl _ _) g (some b)).grown hg (.inl rfl)); clear hr hg m2)
    | (go_at_call 51; (with_reducible refine (DC.out _ Q1.out).mono ?_); rintro e w3 ⟨⟨bb, rfl⟩, v3, hq3, hk3, hr3⟩; have Q3 := Aside0.mk hq3; have K3 := Aside0.mk (K1.out.trans hk3 (.inl rfl)); have R3 := Aside0.mk (NewRow.trans (w := w) (.inl rfl : NewRow w (.slice (some ⟨b, 0, none⟩) (n + 1) c) (.slice (some ⟨b, 0, none⟩) (n + 1) c)) hr3 K1.out.size); clear hq3 hk3 hr3)
    | (go_at_call 76; (with_reducible refine (PC.out _ _ Q3.out).mono ?_); rintro e w4 ⟨rfl, hq⟩; have Q4 := Aside0.mk (QPost.trans (w := w) (v := .slice (some ⟨b, 0, none⟩) (n + 1) c) ⟨v3, ⟨Q3.out, K3.out, R3.out⟩, hq⟩); clear hq))
  go_ret
  exact ⟨rfl, Q4.out⟩
end Go.Proofs.Ytbgcbnlpjjhmhaa.LinesWalk
