/- The row of FetchDoes: for every input the call returns true, and each argument reads as it did. No condition. -/
import Derived.Test.YtiogbgjeimdgmaaRows
import Derived.Test.YtiogbgjeimdgmaaFetchDoes
import Derived.Test.YtiogbgjeimdgmaaRowsF
import Derived.WalkKit
import Derived.ProofKit
import Derived.OpenShut
import Derived.ShutString
import Derived.ChangeOld
import Derived.Below
import Derived.Carry
import Derived.SizedLaws
import Derived.Lib.SmallJoins
namespace Go.Proofs.Ytiogbgjeimdgmaa.fetchDoes
open Go.ChangeShapes Go.WideShapes Go.ChangeAt Go.RowKit
open Go.ChangeMaps (open_string shut_string)
set_option linter.unusedVariables false
set_option linter.unusedSimpArgs false
theorem own : ownKnob Try.prog.godebug = none := by kernel_rfl
theorem len_succ {α : Type} {l : List α} {n : Nat} (h : l.length = n + 1) : ∃ x t, l = x :: t ∧ t.length = n := by
  cases l with
  | nil => simp at h
  | cons x t => exact ⟨x, t, rfl, by simpa using h⟩
theorem laidOut : laidOutB Try.prog = true := by kernel_rfl
set_option maxHeartbeats 4000000 in
set_option maxRecDepth 100000 in
theorem lifted (os : Os) (started : os.Started) (H : Type) (enc : TypeId × Value → H) :
    ReturnsInHanded {} Try.checked os 10 .any (Rows.fetchDoesSpec.pre6 enc Try.prog Try.f10 Rows.fetchDoesRow.domain false) (Rows.fetchDoesSpec.post enc Try.prog Try.f10 false true false false) := by
  refine returnsInHanded_of_change_sized (C := Try.checked) own started (by kernel_rfl) Try.func10
    (ChangeSpec.witness6 (enc := enc) (C := Try.checked) false ⟨#[], #[.slice none 0 0, .agg #[.int .u32 0, .int .u32 0, .int .u32 0, .int .u32 0, .int .u32 0], .slice none 0 0], []⟩ 8 (by kernel_rfl) (by kernel_rfl) (by kernel_rfl) (by kernel_rfl)) ?_
  intro W base args ds gs before hval0 hW hcnd hsz0 _
  have hsz : (DataW.weightsEach Try.prog (Try.f10.params.toList ++ Rows.fetchDoesSpec.plain.varTypes Try.prog) (ds ++ gs)).all (· ≤ reachBytes) = true := hsz0
  have hval : ∀ (j : Nat) t v, Try.f10.params[j]? = some t → args[j]? = some v → Value.okWide Try.prog W .any base t v := hval0
  have hW' := hW
  obtain ⟨p, q, hA0, hV, rfl, hfz, hnd⟩ := hW
  have hA : DataW.TrodAll enc Try.prog W 0 (fun _ => true) true Try.f10.params.toList args.toList ds p := hA0
  rw [Try.params10] at hA hval hsz
  obtain ⟨v0, vs0, d0, ds0, p0, q0, hargs, rfl, rfl, h0, r0⟩ := trodAll_cons hA
  obtain ⟨v1, vs1, d1, ds1, p1, q1, rfl, rfl, rfl, h1, r1⟩ := trodAll_cons r0
  obtain ⟨v2, vs2, d2, ds2, p2, q2, rfl, rfl, rfl, h2, r2⟩ := trodAll_cons r1
  obtain ⟨rfl, rfl, rfl⟩ := trodAll_nil r2
  obtain rfl : args = #[v0, v1, v2] := by cases args; simp_all
  obtain ⟨rfl, rfl⟩ := trodVars_none hV
  obtain ⟨a0, len0, cap0, rfl⟩ := okWide_slice Try.underlying22 (hval 0 22 v0 rfl rfl)
  have k0 := h0
  have lt0 : ∀ x ∈ p0, x.block < W.heap.size := by obtain ⟨m, hm⟩ := k0; exact DataW.trod_lt m _ _ _ hm
  obtain ⟨z0, w0⟩ : ∃ zs, Go.Proofs.YtiogbgjeimdgmaaW.PrintWords.IsRow .u8 W a0 len0 cap0 zs := by
    obtain ⟨fuel, hf⟩ := h0
    rcases open_ints Try.underlying22 Try.underlying5 (by kernel_rfl) hf with ⟨hcs, _⟩ | ⟨x, l, c, zs, hcs, _, hl, hm, hz, _, hcell, hwz⟩
    · simp [Value.cells] at hcs
      obtain ⟨rfl, rfl, rfl⟩ := hcs
      exact ⟨[], .inl ⟨rfl, rfl, rfl, rfl⟩⟩
    · simp [Value.cells] at hcs
      obtain ⟨rfl, rfl, rfl⟩ := hcs
      exact ⟨zs, .inr ⟨_, rfl, hl, hm, by simpa using hz, hcell, hwz⟩⟩
  have y0 : len0 * 1 ≤ 140737488351232 := Go.Proofs.YtiogbgjeimdgmaaW.PrintWords.sized_ints hsz (j := 0) (t := 22) rfl rfl Try.underlying22 Try.underlying5 (by kernel_rfl) (by kernel_rfl) h0
  have c_25 : Try.prog.cellsOf 25 = 5 := by kernel_rfl
  have c_23 : Try.prog.cellsOf 23 = 1 := by kernel_rfl
  have k1 := h1
  have lt1 : ∀ x ∈ p1, x.block < W.heap.size := by obtain ⟨m, hm⟩ := k1; exact DataW.trod_lt m _ _ _ hm
  obtain ⟨cs1, rfl, hsz1⟩ := okWide_struct Try.underlying25 (hval 1 25 v1 rfl rfl)
  rw [c_25] at hsz1
  obtain ⟨cl1⟩ := cs1
  have hsz1 : cl1.length = 5 := hsz1
  obtain ⟨k1_0, cl1_t0, rfl, hsz1_0⟩ := len_succ hsz1
  obtain ⟨k1_1, cl1_t1, rfl, hsz1_1⟩ := len_succ hsz1_0
  obtain ⟨k1_2, cl1_t2, rfl, hsz1_2⟩ := len_succ hsz1_1
  obtain ⟨k1_3, cl1_t3, rfl, hsz1_3⟩ := len_succ hsz1_2
  obtain ⟨k1_4, cl1_t4, rfl, hsz1_4⟩ := len_succ hsz1_3
  obtain rfl := List.eq_nil_of_length_eq_zero hsz1_4
  obtain ⟨fu1, hy_⟩ := h1
  simp only [Value.cells] at hy_
  obtain ⟨ys_, m_, _, gx_, _, hl_, hf_⟩ := DataW.trod_struct Try.underlying25 hy_
  obtain ⟨y__0, ys__t0, rfl, hl__0⟩ := len_succ hl_
  obtain ⟨y__1, ys__t1, rfl, hl__1⟩ := len_succ hl__0
  obtain ⟨y__2, ys__t2, rfl, hl__2⟩ := len_succ hl__1
  obtain ⟨y__3, ys__t3, rfl, hl__3⟩ := len_succ hl__2
  obtain ⟨y__4, ys__t4, rfl, hl__4⟩ := len_succ hl__3
  obtain rfl := List.eq_nil_of_length_eq_zero hl__4
  have hy__0 := hf_ 0 _ rfl
  have hy__1 := hf_ 1 _ rfl
  have hy__2 := hf_ 2 _ rfl
  have hy__3 := hf_ 3 _ rfl
  have hy__4 := hf_ 4 _ rfl
  clear hf_
  simp [c_25, c_23] at hy__0 hy__1 hy__2 hy__3 hy__4
  obtain ⟨a1__0, ea1__0, _, w1__0⟩ := DataW.trod_int Try.underlying23 hy__0
  obtain ⟨a1__1, ea1__1, _, w1__1⟩ := DataW.trod_int Try.underlying23 hy__1
  obtain ⟨a1__2, ea1__2, _, w1__2⟩ := DataW.trod_int Try.underlying23 hy__2
  obtain ⟨a1__3, ea1__3, _, w1__3⟩ := DataW.trod_int Try.underlying23 hy__3
  obtain ⟨a1__4, ea1__4, _, w1__4⟩ := DataW.trod_int Try.underlying23 hy__4
  simp at ea1__0 ea1__1 ea1__2 ea1__3 ea1__4
  subst ea1__0 ea1__1 ea1__2 ea1__3 ea1__4
  obtain ⟨a2, len2, cap2, rfl⟩ := okWide_slice Try.underlying80 (hval 2 80 v2 rfl rfl)
  have k2 := h2
  have lt2 : ∀ x ∈ p2, x.block < W.heap.size := by obtain ⟨m, hm⟩ := k2; exact DataW.trod_lt m _ _ _ hm
  have w2 : Go.Proofs.YtiogbgjeimdgmaaW.PrintWords.IsRowN 10 Go.Proofs.YtiogbgjeimdgmaaW.PrintWords.FCallV W a2 len2 cap2 := by
    obtain ⟨fuel, hf⟩ := h2
    refine Go.Proofs.YtiogbgjeimdgmaaW.PrintWords.open_rowsN Try.underlying80 (by kernel_rfl) (fun kk vs y hl hy_ => ?_) (by simpa [Value.cells] using hf)
    have c_85 : Try.prog.cellsOf 85 = 10 := by kernel_rfl
    have c_3 : Try.prog.cellsOf 3 = 1 := by kernel_rfl
    have c_23 : Try.prog.cellsOf 23 = 1 := by kernel_rfl
    have c_4 : Try.prog.cellsOf 4 = 1 := by kernel_rfl
    have c_25 : Try.prog.cellsOf 25 = 5 := by kernel_rfl
    obtain ⟨k2_0, vs_t0, rfl, hl_0⟩ := len_succ hl
    obtain ⟨k2_1, vs_t1, rfl, hl_1⟩ := len_succ hl_0
    obtain ⟨k2_2, vs_t2, rfl, hl_2⟩ := len_succ hl_1
    obtain ⟨k2_3, vs_t3, rfl, hl_3⟩ := len_succ hl_2
    obtain ⟨k2_4, vs_t4, rfl, hl_4⟩ := len_succ hl_3
    obtain ⟨k2_5, vs_t5, rfl, hl_5⟩ := len_succ hl_4
    obtain ⟨k2_6, vs_t6, rfl, hl_6⟩ := len_succ hl_5
    obtain ⟨k2_7, vs_t7, rfl, hl_7⟩ := len_succ hl_6
    obtain ⟨k2_8, vs_t8, rfl, hl_8⟩ := len_succ hl_7
    obtain ⟨k2_9, vs_t9, rfl, hl_9⟩ := len_succ hl_8
    obtain rfl := List.eq_nil_of_length_eq_zero hl_9
    obtain ⟨ys_, m_, _, gx_, _, hl_, hf_⟩ := DataW.trod_struct Try.underlying85 hy_
    obtain ⟨y__0, ys__t0, rfl, hl__0⟩ := len_succ hl_
    obtain ⟨y__1, ys__t1, rfl, hl__1⟩ := len_succ hl__0
    obtain ⟨y__2, ys__t2, rfl, hl__2⟩ := len_succ hl__1
    obtain ⟨y__3, ys__t3, rfl, hl__3⟩ := len_succ hl__2
    obtain ⟨y__4, ys__t4, rfl, hl__4⟩ := len_succ hl__3
    obtain ⟨y__5, ys__t5, rfl, hl__5⟩ := len_succ hl__4
    obtain rfl := List.eq_nil_of_length_eq_zero hl__5
    have hy__0 := hf_ 0 _ rfl
    have hy__1 := hf_ 1 _ rfl
    have hy__2 := hf_ 2 _ rfl
    have hy__3 := hf_ 3 _ rfl
    have hy__4 := hf_ 4 _ rfl
    have hy__5 := hf_ 5 _ rfl
    clear hf_
    simp [c_85, c_3, c_23, c_4, c_25] at hy__0 hy__1 hy__2 hy__3 hy__4 hy__5
    obtain ⟨a2__0, ea2__0, _, w2__0⟩ := DataW.trod_int Try.underlying3 hy__0
    obtain ⟨a2__1, ea2__1, _, w2__1⟩ := DataW.trod_int Try.underlying3 hy__1
    obtain ⟨a2__2, ea2__2, _, w2__2⟩ := DataW.trod_int Try.underlying23 hy__2
    obtain ⟨a2__3, ea2__3, _, w2__3⟩ := DataW.trod_int Try.underlying23 hy__3
    obtain ⟨a2__4, ea2__4, _⟩ := DataW.trod_bool Try.underlying4 hy__4
    obtain ⟨ys__5, m__5, _, gx__5, _, hl__5, hf__5⟩ := DataW.trod_struct Try.underlying25 hy__5
    obtain ⟨y__5_0, ys__5_t0, rfl, hl__5_0⟩ := len_succ hl__5
    obtain ⟨y__5_1, ys__5_t1, rfl, hl__5_1⟩ := len_succ hl__5_0
    obtain ⟨y__5_2, ys__5_t2, rfl, hl__5_2⟩ := len_succ hl__5_1
    obtain ⟨y__5_3, ys__5_t3, rfl, hl__5_3⟩ := len_succ hl__5_2
    obtain ⟨y__5_4, ys__5_t4, rfl, hl__5_4⟩ := len_succ hl__5_3
    obtain rfl := List.eq_nil_of_length_eq_zero hl__5_4
    have hy__5_0 := hf__5 0 _ rfl
    have hy__5_1 := hf__5 1 _ rfl
    have hy__5_2 := hf__5 2 _ rfl
    have hy__5_3 := hf__5 3 _ rfl
    have hy__5_4 := hf__5 4 _ rfl
    clear hf__5
    simp [c_85, c_3, c_23, c_4, c_25] at hy__5_0 hy__5_1 hy__5_2 hy__5_3 hy__5_4
    obtain ⟨a2__5_0, ea2__5_0, _, w2__5_0⟩ := DataW.trod_int Try.underlying23 hy__5_0
    obtain ⟨a2__5_1, ea2__5_1, _, w2__5_1⟩ := DataW.trod_int Try.underlying23 hy__5_1
    obtain ⟨a2__5_2, ea2__5_2, _, w2__5_2⟩ := DataW.trod_int Try.underlying23 hy__5_2
    obtain ⟨a2__5_3, ea2__5_3, _, w2__5_3⟩ := DataW.trod_int Try.underlying23 hy__5_3
    obtain ⟨a2__5_4, ea2__5_4, _, w2__5_4⟩ := DataW.trod_int Try.underlying23 hy__5_4
    simp at ea2__0 ea2__1 ea2__2 ea2__3 ea2__4 ea2__5_0 ea2__5_1 ea2__5_2 ea2__5_3 ea2__5_4
    subst ea2__0 ea2__1 ea2__2 ea2__3 ea2__4 ea2__5_0 ea2__5_1 ea2__5_2 ea2__5_3 ea2__5_4
    exact ⟨a2__0, a2__1, a2__2, a2__3, a2__4, a2__5_0, a2__5_1, a2__5_2, a2__5_3, a2__5_4, rfl, w2__0, w2__1, w2__2, w2__3, w2__5_0, w2__5_1, w2__5_2, w2__5_3, w2__5_4⟩
  clear hA0 hval0 hsz0 hsz
  refine (Go.Proofs.Ytiogbgjeimdgmaa.RefWalk.FetchDoes_walk a0 len0 cap0 z0 a1__0 a1__1 a1__2 a1__3 a1__4 a2 len2 cap2 W w0 y0 w1__0 w1__1 w1__2 w1__3 w1__4 w2).mono fun e W' ⟨he, bel⟩ => ?_
  subst he
  exact ⟨_, rfl, _, _, _, [], _, [], hW', trodAll_mk1 (shut_bool Try.underlying4 _), (trodAll_cons_mk (Below.trod laidOut (by kernel_rfl) (of_decide_eq_true (by kernel_rfl)) k0 bel lt0) (trodAll_cons_mk (Below.trod laidOut (by kernel_rfl) (of_decide_eq_true (by kernel_rfl)) k1 bel lt1) (trodAll_cons_mk (Below.trod laidOut (by kernel_rfl) (of_decide_eq_true (by kernel_rfl)) k2 bel lt2) trodAll_mk0))), rfl, bel.frame _, fun h => by cases h⟩
theorem over : Rows.fetchDoesRow.holds Try.pinned (OpenSpec.ofChange Rows.fetchDoesSpec) :=
  OpenClaim.holds_of_wide 10 Try.f10 rfl rfl rfl rfl rfl rfl rfl ⟨rfl, rfl, rfl, rfl, rfl⟩ rfl rfl rfl rfl rfl (by kernel_rfl) Try.func10 (by kernel_rfl)
    (of_decide_eq_true (by kernel_rfl)) (by unfold Func.isWrapper; first | (rw [if_pos (by decide +kernel)]; kernel_rfl) | (rw [if_neg (by decide +kernel)]; exact ⟨rfl, rfl⟩))
    (fun os started H enc _ => lifted os started H enc)
theorem proved : Rows.FetchDoesSaid := over
#print axioms proved
end Go.Proofs.Ytiogbgjeimdgmaa.fetchDoes
namespace Go.Proofs.Ytiogbgjeimdgmaa
/-- The row, under a short name, for the claim. -/
theorem fetchDoes_holds : Rows.FetchDoesSaid := fetchDoes.proved
end Go.Proofs.Ytiogbgjeimdgmaa
