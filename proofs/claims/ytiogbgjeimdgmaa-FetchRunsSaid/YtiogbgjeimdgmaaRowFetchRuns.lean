/- The row of FetchRuns: for every input the call returns true, and each argument reads as it did. No condition. -/
import Derived.Test.YtiogbgjeimdgmaaRows
import Derived.Test.YtiogbgjeimdgmaaFetchRuns
import Derived.WalkKit
import Derived.ProofKit
import Derived.OpenShut
import Derived.ShutString
import Derived.ChangeOld
import Derived.Below
import Derived.Carry
import Derived.SizedLaws
import Derived.Lib.SmallJoins
namespace Go.Proofs.Ytiogbgjeimdgmaa.fetchRuns
open Go.ChangeShapes Go.WideShapes Go.ChangeAt Go.RowKit
open Go.ChangeMaps (open_string shut_string)
set_option linter.unusedVariables false
set_option linter.unusedSimpArgs false
theorem own : ownKnob Try.prog.godebug = none := by kernel_rfl
theorem len_succ {α : Type} {l : List α} {n : Nat} (h : l.length = n + 1) : ∃ x t, l = x :: t ∧ t.length = n := by
  cases l with
  | nil => simp at h
  | cons x t => exact ⟨x, t, rfl, by simpa using h⟩
theorem laidOut : laidOutB Try.prog = true := by kernel_rfl
set_option maxHeartbeats 4000000 in
set_option maxRecDepth 100000 in
theorem lifted (os : Os) (started : os.Started) (H : Type) (enc : TypeId × Value → H) :
    ReturnsInHanded {} Try.checked os 3 .any (Rows.fetchRunsSpec.pre6 enc Try.prog Try.f3 Rows.fetchRunsRow.domain false) (Rows.fetchRunsSpec.post enc Try.prog Try.f3 false true false false) := by
  refine returnsInHanded_of_change_sized (C := Try.checked) own started (by kernel_rfl) Try.func3
    (ChangeSpec.witness6 (enc := enc) (C := Try.checked) false ⟨#[], #[.slice none 0 0, .agg #[.int .u32 0, .int .u32 0, .int .u32 0, .int .u32 0, .int .u32 0], .int .u32 0, .bool false, .slice none 0 0], []⟩ 8 (by kernel_rfl) (by kernel_rfl) (by kernel_rfl) (by kernel_rfl)) ?_
  intro W base args ds gs before hval0 hW hcnd hsz0 _
  have hsz : (DataW.weightsEach Try.prog (Try.f3.params.toList ++ Rows.fetchRunsSpec.plain.varTypes Try.prog) (ds ++ gs)).all (· ≤ reachBytes) = true := hsz0
  have hval : ∀ (j : Nat) t v, Try.f3.params[j]? = some t → args[j]? = some v → Value.okWide Try.prog W .any base t v := hval0
  have hW' := hW
  obtain ⟨p, q, hA0, hV, rfl, hfz, hnd⟩ := hW
  have hA : DataW.TrodAll enc Try.prog W 0 (fun _ => true) true Try.f3.params.toList args.toList ds p := hA0
  rw [Try.params3] at hA hval hsz
  obtain ⟨v0, vs0, d0, ds0, p0, q0, hargs, rfl, rfl, h0, r0⟩ := trodAll_cons hA
  obtain ⟨v1, vs1, d1, ds1, p1, q1, rfl, rfl, rfl, h1, r1⟩ := trodAll_cons r0
  obtain ⟨v2, vs2, d2, ds2, p2, q2, rfl, rfl, rfl, h2, r2⟩ := trodAll_cons r1
  obtain ⟨v3, vs3, d3, ds3, p3, q3, rfl, rfl, rfl, h3, r3⟩ := trodAll_cons r2
  obtain ⟨v4, vs4, d4, ds4, p4, q4, rfl, rfl, rfl, h4, r4⟩ := trodAll_cons r3
  obtain ⟨rfl, rfl, rfl⟩ := trodAll_nil r4
  obtain rfl : args = #[v0, v1, v2, v3, v4] := by cases args; simp_all
  obtain ⟨rfl, rfl⟩ := trodVars_none hV
  obtain ⟨a0, len0, cap0, rfl⟩ := okWide_slice Try.underlying22 (hval 0 22 v0 rfl rfl)
  have k0 := h0
  have lt0 : ∀ x ∈ p0, x.block < W.heap.size := by obtain ⟨m, hm⟩ := k0; exact DataW.trod_lt m _ _ _ hm
  obtain ⟨z0, w0⟩ : ∃ zs, Go.Proofs.YtiogbgjeimdgmaaW.PrintWords.IsRow .u8 W a0 len0 cap0 zs := by
    obtain ⟨fuel, hf⟩ := h0
    rcases open_ints Try.underlying22 Try.underlying5 (by kernel_rfl) hf with ⟨hcs, _⟩ | ⟨x, l, c, zs, hcs, _, hl, hm, hz, _, hcell, hwz⟩
    · simp [Value.cells] at hcs
      obtain ⟨rfl, rfl, rfl⟩ := hcs
      exact ⟨[], .inl ⟨rfl, rfl, rfl, rfl⟩⟩
    · simp [Value.cells] at hcs
      obtain ⟨rfl, rfl, rfl⟩ := hcs
      exact ⟨zs, .inr ⟨_, rfl, hl, hm, by simpa using hz, hcell, hwz⟩⟩
  have y0 : len0 * 1 ≤ 140737488351232 := Go.Proofs.YtiogbgjeimdgmaaW.PrintWords.sized_ints hsz (j := 0) (t := 22) rfl rfl Try.underlying22 Try.underlying5 (by kernel_rfl) (by kernel_rfl) h0
  have c_25 : Try.prog.cellsOf 25 = 5 := by kernel_rfl
  have c_23 : Try.prog.cellsOf 23 = 1 := by kernel_rfl
  have k1 := h1
  have lt1 : ∀ x ∈ p1, x.block < W.heap.size := by obtain ⟨m, hm⟩ := k1; exact DataW.trod_lt m _ _ _ hm
  obtain ⟨cs1, rfl, hsz1⟩ := okWide_struct Try.underlying25 (hval 1 25 v1 rfl rfl)
  rw [c_25] at hsz1
  obtain ⟨cl1⟩ := cs1
  have hsz1 : cl1.length = 5 := hsz1
  obtain ⟨k1_0, cl1_t0, rfl, hsz1_0⟩ := len_succ hsz1
  obtain ⟨k1_1, cl1_t1, rfl, hsz1_1⟩ := len_succ hsz1_0
  obtain ⟨k1_2, cl1_t2, rfl, hsz1_2⟩ := len_succ hsz1_1
  obtain ⟨k1_3, cl1_t3, rfl, hsz1_3⟩ := len_succ hsz1_2
  obtain ⟨k1_4, cl1_t4, rfl, hsz1_4⟩ := len_succ hsz1_3
  obtain rfl := List.eq_nil_of_length_eq_zero hsz1_4
  obtain ⟨fu1, hy_⟩ := h1
  simp only [Value.cells] at hy_
  obtain ⟨ys_, m_, _, gx_, _, hl_, hf_⟩ := DataW.trod_struct Try.underlying25 hy_
  obtain ⟨y__0, ys__t0, rfl, hl__0⟩ := len_succ hl_
  obtain ⟨y__1, ys__t1, rfl, hl__1⟩ := len_succ hl__0
  obtain ⟨y__2, ys__t2, rfl, hl__2⟩ := len_succ hl__1
  obtain ⟨y__3, ys__t3, rfl, hl__3⟩ := len_succ hl__2
  obtain ⟨y__4, ys__t4, rfl, hl__4⟩ := len_succ hl__3
  obtain rfl := List.eq_nil_of_length_eq_zero hl__4
  have hy__0 := hf_ 0 _ rfl
  have hy__1 := hf_ 1 _ rfl
  have hy__2 := hf_ 2 _ rfl
  have hy__3 := hf_ 3 _ rfl
  have hy__4 := hf_ 4 _ rfl
  clear hf_
  simp [c_25, c_23] at hy__0 hy__1 hy__2 hy__3 hy__4
  obtain ⟨a1__0, ea1__0, _, w1__0⟩ := DataW.trod_int Try.underlying23 hy__0
  obtain ⟨a1__1, ea1__1, _, w1__1⟩ := DataW.trod_int Try.underlying23 hy__1
  obtain ⟨a1__2, ea1__2, _, w1__2⟩ := DataW.trod_int Try.underlying23 hy__2
  obtain ⟨a1__3, ea1__3, _, w1__3⟩ := DataW.trod_int Try.underlying23 hy__3
  obtain ⟨a1__4, ea1__4, _, w1__4⟩ := DataW.trod_int Try.underlying23 hy__4
  simp at ea1__0 ea1__1 ea1__2 ea1__3 ea1__4
  subst ea1__0 ea1__1 ea1__2 ea1__3 ea1__4
  obtain ⟨a2, rfl, rfl, rfl, w2⟩ := open_int Try.underlying23 (hval 2 23 v2 rfl rfl) h2
  obtain ⟨a3, rfl, rfl, rfl⟩ := open_bool Try.underlying4 (hval 3 4 v3 rfl rfl) h3
  obtain ⟨a4, len4, cap4, rfl⟩ := okWide_slice Try.underlying26 (hval 4 26 v4 rfl rfl)
  have k4 := h4
  have lt4 : ∀ x ∈ p4, x.block < W.heap.size := by obtain ⟨m, hm⟩ := k4; exact DataW.trod_lt m _ _ _ hm
  obtain ⟨z4, w4⟩ : ∃ zs, Go.Proofs.YtiogbgjeimdgmaaW.PrintWords.IsRow .i64 W a4 len4 cap4 zs := by
    obtain ⟨fuel, hf⟩ := h4
    rcases open_ints Try.underlying26 Try.underlying3 (by kernel_rfl) hf with ⟨hcs, _⟩ | ⟨x, l, c, zs, hcs, _, hl, hm, hz, _, hcell, hwz⟩
    · simp [Value.cells] at hcs
      obtain ⟨rfl, rfl, rfl⟩ := hcs
      exact ⟨[], .inl ⟨rfl, rfl, rfl, rfl⟩⟩
    · simp [Value.cells] at hcs
      obtain ⟨rfl, rfl, rfl⟩ := hcs
      exact ⟨zs, .inr ⟨_, rfl, hl, hm, by simpa using hz, hcell, hwz⟩⟩
  have y4 : len4 * 8 ≤ 140737488351232 := Go.Proofs.YtiogbgjeimdgmaaW.PrintWords.sized_ints hsz (j := 4) (t := 26) rfl rfl Try.underlying26 Try.underlying3 (by kernel_rfl) (by kernel_rfl) h4
  clear hA0 hval0 hsz0 hsz
  refine (Go.Proofs.Ytiogbgjeimdgmaa.RefWalk.FetchRuns_walk a0 len0 cap0 z0 a1__0 a1__1 a1__2 a1__3 a1__4 a2 a3 a4 len4 cap4 z4 W w0 y0 w1__0 w1__1 w1__2 w1__3 w1__4 w2 w4 y4).mono fun e W' ⟨he, bel⟩ => ?_
  subst he
  exact ⟨_, rfl, _, _, _, [], _, [], hW', trodAll_mk1 (shut_bool Try.underlying4 _), (trodAll_cons_mk (Below.trod laidOut (by kernel_rfl) (of_decide_eq_true (by kernel_rfl)) k0 bel lt0) (trodAll_cons_mk (Below.trod laidOut (by kernel_rfl) (of_decide_eq_true (by kernel_rfl)) k1 bel lt1) (trodAll_cons_mk (shut_int Try.underlying23 w2) (trodAll_cons_mk (shut_bool Try.underlying4 a3) (trodAll_cons_mk (Below.trod laidOut (by kernel_rfl) (of_decide_eq_true (by kernel_rfl)) k4 bel lt4) trodAll_mk0))))), rfl, bel.frame _, fun h => by cases h⟩
theorem over : Rows.fetchRunsRow.holds Try.pinned (OpenSpec.ofChange Rows.fetchRunsSpec) :=
  OpenClaim.holds_of_wide 3 Try.f3 rfl rfl rfl rfl rfl rfl rfl ⟨rfl, rfl, rfl, rfl, rfl⟩ rfl rfl rfl rfl rfl (by kernel_rfl) Try.func3 (by kernel_rfl)
    (of_decide_eq_true (by kernel_rfl)) (by unfold Func.isWrapper; first | (rw [if_pos (by decide +kernel)]; kernel_rfl) | (rw [if_neg (by decide +kernel)]; exact ⟨rfl, rfl⟩))
    (fun os started H enc _ => lifted os started H enc)
theorem proved : Rows.FetchRunsSaid := over
#print axioms proved
end Go.Proofs.Ytiogbgjeimdgmaa.fetchRuns
namespace Go.Proofs.Ytiogbgjeimdgmaa
/-- The row, under a short name, for the claim. -/
theorem fetchRuns_holds : Rows.FetchRunsSaid := fetchRuns.proved
end Go.Proofs.Ytiogbgjeimdgmaa
