/- The row of RegsStacks: for every input the call returns true, and each argument reads as it did. No condition. -/
import Derived.Test.YtbgcbnlpjjhmhaaRows
import Derived.Test.YtbgcbnlpjjhmhaaRegsStacks
import Derived.WalkKit
import Derived.ProofKit
import Derived.OpenShut
import Derived.ShutString
import Derived.ChangeOld
import Derived.Below
import Derived.Carry
import Derived.SizedLaws
import Derived.Lib.SmallJoins
namespace Go.Proofs.Ytbgcbnlpjjhmhaa.regsStacks
open Go.ChangeShapes Go.WideShapes Go.ChangeAt Go.RowKit
open Go.ChangeMaps (open_string shut_string)
set_option linter.unusedVariables false
set_option linter.unusedSimpArgs false
theorem own : ownKnob Try.prog.godebug = none := by kernel_rfl
theorem len_succ {α : Type} {l : List α} {n : Nat} (h : l.length = n + 1) : ∃ x t, l = x :: t ∧ t.length = n := by
  cases l with
  | nil => simp at h
  | cons x t => exact ⟨x, t, rfl, by simpa using h⟩
theorem laidOut : laidOutB Try.prog = true := by kernel_rfl
set_option maxHeartbeats 4000000 in
set_option maxRecDepth 100000 in
theorem lifted (os : Os) (started : os.Started) (H : Type) (enc : TypeId × Value → H) :
    ReturnsInHanded {} Try.checked os 9 .any (Rows.regsStacksSpec.pre6 enc Try.prog Try.f9 Rows.regsStacksRow.domain false) (Rows.regsStacksSpec.post enc Try.prog Try.f9 false true false false) := by
  refine returnsInHanded_of_change_sized (C := Try.checked) own started (by kernel_rfl) Try.func9
    (ChangeSpec.witness6 (enc := enc) (C := Try.checked) false ⟨#[], #[.agg #[.int .u32 0, .int .u32 0, .int .u32 0, .int .u32 0, .int .u32 0, .int .u32 0, .int .u32 0, .int .u32 0, .int .u32 0, .int .u32 0, .int .u32 0, .int .u32 0, .int .u32 0, .int .u32 0, .int .u32 0, .int .u32 0, .int .u32 0, .int .u32 0, .int .u32 0, .int .u32 0, .int .u32 0, .int .u32 0, .int .u32 0, .int .u32 0, .int .u32 0, .int .i64 0], .int .u32 0, .int .u32 0, .int .u32 0, .int .u32 0], []⟩ 8 (by kernel_rfl) (by kernel_rfl) (by kernel_rfl) (by kernel_rfl)) ?_
  intro W base args ds gs before hval0 hW hcnd hsz0 _
  have hsz : (DataW.weightsEach Try.prog (Try.f9.params.toList ++ Rows.regsStacksSpec.plain.varTypes Try.prog) (ds ++ gs)).all (· ≤ reachBytes) = true := hsz0
  have hval : ∀ (j : Nat) t v, Try.f9.params[j]? = some t → args[j]? = some v → Value.okWide Try.prog W .any base t v := hval0
  have hW' := hW
  obtain ⟨p, q, hA0, hV, rfl, hfz, hnd⟩ := hW
  have hA : DataW.TrodAll enc Try.prog W 0 (fun _ => true) true Try.f9.params.toList args.toList ds p := hA0
  rw [Try.params9] at hA hval hsz
  obtain ⟨v0, vs0, d0, ds0, p0, q0, hargs, rfl, rfl, h0, r0⟩ := trodAll_cons hA
  obtain ⟨v1, vs1, d1, ds1, p1, q1, rfl, rfl, rfl, h1, r1⟩ := trodAll_cons r0
  obtain ⟨v2, vs2, d2, ds2, p2, q2, rfl, rfl, rfl, h2, r2⟩ := trodAll_cons r1
  obtain ⟨v3, vs3, d3, ds3, p3, q3, rfl, rfl, rfl, h3, r3⟩ := trodAll_cons r2
  obtain ⟨v4, vs4, d4, ds4, p4, q4, rfl, rfl, rfl, h4, r4⟩ := trodAll_cons r3
  obtain ⟨rfl, rfl, rfl⟩ := trodAll_nil r4
  obtain rfl : args = #[v0, v1, v2, v3, v4] := by cases args; simp_all
  obtain ⟨rfl, rfl⟩ := trodVars_none hV
  have c_27 : Try.prog.cellsOf 27 = 26 := by kernel_rfl
  have c_23 : Try.prog.cellsOf 23 = 16 := by kernel_rfl
  have c_22 : Try.prog.cellsOf 22 = 1 := by kernel_rfl
  have c_25 : Try.prog.cellsOf 25 = 5 := by kernel_rfl
  have c_3 : Try.prog.cellsOf 3 = 1 := by kernel_rfl
  have k0 := h0
  have lt0 : ∀ x ∈ p0, x.block < W.heap.size := by obtain ⟨m, hm⟩ := k0; exact DataW.trod_lt m _ _ _ hm
  obtain ⟨cs0, rfl, hsz0⟩ := okWide_struct Try.underlying27 (hval 0 27 v0 rfl rfl)
  rw [c_27] at hsz0
  obtain ⟨cl0⟩ := cs0
  have hsz0 : cl0.length = 26 := hsz0
  obtain ⟨k0_0, cl0_t0, rfl, hsz0_0⟩ := len_succ hsz0
  obtain ⟨k0_1, cl0_t1, rfl, hsz0_1⟩ := len_succ hsz0_0
  obtain ⟨k0_2, cl0_t2, rfl, hsz0_2⟩ := len_succ hsz0_1
  obtain ⟨k0_3, cl0_t3, rfl, hsz0_3⟩ := len_succ hsz0_2
  obtain ⟨k0_4, cl0_t4, rfl, hsz0_4⟩ := len_succ hsz0_3
  obtain ⟨k0_5, cl0_t5, rfl, hsz0_5⟩ := len_succ hsz0_4
  obtain ⟨k0_6, cl0_t6, rfl, hsz0_6⟩ := len_succ hsz0_5
  obtain ⟨k0_7, cl0_t7, rfl, hsz0_7⟩ := len_succ hsz0_6
  obtain ⟨k0_8, cl0_t8, rfl, hsz0_8⟩ := len_succ hsz0_7
  obtain ⟨k0_9, cl0_t9, rfl, hsz0_9⟩ := len_succ hsz0_8
  obtain ⟨k0_10, cl0_t10, rfl, hsz0_10⟩ := len_succ hsz0_9
  obtain ⟨k0_11, cl0_t11, rfl, hsz0_11⟩ := len_succ hsz0_10
  obtain ⟨k0_12, cl0_t12, rfl, hsz0_12⟩ := len_succ hsz0_11
  obtain ⟨k0_13, cl0_t13, rfl, hsz0_13⟩ := len_succ hsz0_12
  obtain ⟨k0_14, cl0_t14, rfl, hsz0_14⟩ := len_succ hsz0_13
  obtain ⟨k0_15, cl0_t15, rfl, hsz0_15⟩ := len_succ hsz0_14
  obtain ⟨k0_16, cl0_t16, rfl, hsz0_16⟩ := len_succ hsz0_15
  obtain ⟨k0_17, cl0_t17, rfl, hsz0_17⟩ := len_succ hsz0_16
  obtain ⟨k0_18, cl0_t18, rfl, hsz0_18⟩ := len_succ hsz0_17
  obtain ⟨k0_19, cl0_t19, rfl, hsz0_19⟩ := len_succ hsz0_18
  obtain ⟨k0_20, cl0_t20, rfl, hsz0_20⟩ := len_succ hsz0_19
  obtain ⟨k0_21, cl0_t21, rfl, hsz0_21⟩ := len_succ hsz0_20
  obtain ⟨k0_22, cl0_t22, rfl, hsz0_22⟩ := len_succ hsz0_21
  obtain ⟨k0_23, cl0_t23, rfl, hsz0_23⟩ := len_succ hsz0_22
  obtain ⟨k0_24, cl0_t24, rfl, hsz0_24⟩ := len_succ hsz0_23
  obtain ⟨k0_25, cl0_t25, rfl, hsz0_25⟩ := len_succ hsz0_24
  obtain rfl := List.eq_nil_of_length_eq_zero hsz0_25
  obtain ⟨fu0, hy_⟩ := h0
  simp only [Value.cells] at hy_
  obtain ⟨ys_, m_, _, gx_, _, hl_, hf_⟩ := DataW.trod_struct Try.underlying27 hy_
  obtain ⟨y__0, ys__t0, rfl, hl__0⟩ := len_succ hl_
  obtain ⟨y__1, ys__t1, rfl, hl__1⟩ := len_succ hl__0
  obtain ⟨y__2, ys__t2, rfl, hl__2⟩ := len_succ hl__1
  obtain ⟨y__3, ys__t3, rfl, hl__3⟩ := len_succ hl__2
  obtain ⟨y__4, ys__t4, rfl, hl__4⟩ := len_succ hl__3
  obtain ⟨y__5, ys__t5, rfl, hl__5⟩ := len_succ hl__4
  obtain ⟨y__6, ys__t6, rfl, hl__6⟩ := len_succ hl__5
  obtain rfl := List.eq_nil_of_length_eq_zero hl__6
  have hy__0 := hf_ 0 _ rfl
  have hy__1 := hf_ 1 _ rfl
  have hy__2 := hf_ 2 _ rfl
  have hy__3 := hf_ 3 _ rfl
  have hy__4 := hf_ 4 _ rfl
  have hy__5 := hf_ 5 _ rfl
  have hy__6 := hf_ 6 _ rfl
  clear hf_
  simp [c_27, c_23, c_22, c_25, c_3] at hy__0 hy__1 hy__2 hy__3 hy__4 hy__5 hy__6
  obtain ⟨ys__0, m__0, _, gx__0, _, hl__0, hf__0⟩ := DataW.trod_array Try.underlying23 hy__0
  obtain ⟨y__0_0, ys__0_t0, rfl, hl__0_0⟩ := len_succ hl__0
  obtain ⟨y__0_1, ys__0_t1, rfl, hl__0_1⟩ := len_succ hl__0_0
  obtain ⟨y__0_2, ys__0_t2, rfl, hl__0_2⟩ := len_succ hl__0_1
  obtain ⟨y__0_3, ys__0_t3, rfl, hl__0_3⟩ := len_succ hl__0_2
  obtain ⟨y__0_4, ys__0_t4, rfl, hl__0_4⟩ := len_succ hl__0_3
  obtain ⟨y__0_5, ys__0_t5, rfl, hl__0_5⟩ := len_succ hl__0_4
  obtain ⟨y__0_6, ys__0_t6, rfl, hl__0_6⟩ := len_succ hl__0_5
  obtain ⟨y__0_7, ys__0_t7, rfl, hl__0_7⟩ := len_succ hl__0_6
  obtain ⟨y__0_8, ys__0_t8, rfl, hl__0_8⟩ := len_succ hl__0_7
  obtain ⟨y__0_9, ys__0_t9, rfl, hl__0_9⟩ := len_succ hl__0_8
  obtain ⟨y__0_10, ys__0_t10, rfl, hl__0_10⟩ := len_succ hl__0_9
  obtain ⟨y__0_11, ys__0_t11, rfl, hl__0_11⟩ := len_succ hl__0_10
  obtain ⟨y__0_12, ys__0_t12, rfl, hl__0_12⟩ := len_succ hl__0_11
  obtain ⟨y__0_13, ys__0_t13, rfl, hl__0_13⟩ := len_succ hl__0_12
  obtain ⟨y__0_14, ys__0_t14, rfl, hl__0_14⟩ := len_succ hl__0_13
  obtain ⟨y__0_15, ys__0_t15, rfl, hl__0_15⟩ := len_succ hl__0_14
  obtain rfl := List.eq_nil_of_length_eq_zero hl__0_15
  have hy__0_0 := hf__0 0 (by omega)
  have hy__0_1 := hf__0 1 (by omega)
  have hy__0_2 := hf__0 2 (by omega)
  have hy__0_3 := hf__0 3 (by omega)
  have hy__0_4 := hf__0 4 (by omega)
  have hy__0_5 := hf__0 5 (by omega)
  have hy__0_6 := hf__0 6 (by omega)
  have hy__0_7 := hf__0 7 (by omega)
  have hy__0_8 := hf__0 8 (by omega)
  have hy__0_9 := hf__0 9 (by omega)
  have hy__0_10 := hf__0 10 (by omega)
  have hy__0_11 := hf__0 11 (by omega)
  have hy__0_12 := hf__0 12 (by omega)
  have hy__0_13 := hf__0 13 (by omega)
  have hy__0_14 := hf__0 14 (by omega)
  have hy__0_15 := hf__0 15 (by omega)
  clear hf__0
  simp [c_27, c_23, c_22, c_25, c_3] at hy__0_0 hy__0_1 hy__0_2 hy__0_3 hy__0_4 hy__0_5 hy__0_6 hy__0_7 hy__0_8 hy__0_9 hy__0_10 hy__0_11 hy__0_12 hy__0_13 hy__0_14 hy__0_15
  obtain ⟨a0__0_0, ea0__0_0, _, w0__0_0⟩ := DataW.trod_int Try.underlying22 hy__0_0
  obtain ⟨a0__0_1, ea0__0_1, _, w0__0_1⟩ := DataW.trod_int Try.underlying22 hy__0_1
  obtain ⟨a0__0_2, ea0__0_2, _, w0__0_2⟩ := DataW.trod_int Try.underlying22 hy__0_2
  obtain ⟨a0__0_3, ea0__0_3, _, w0__0_3⟩ := DataW.trod_int Try.underlying22 hy__0_3
  obtain ⟨a0__0_4, ea0__0_4, _, w0__0_4⟩ := DataW.trod_int Try.underlying22 hy__0_4
  obtain ⟨a0__0_5, ea0__0_5, _, w0__0_5⟩ := DataW.trod_int Try.underlying22 hy__0_5
  obtain ⟨a0__0_6, ea0__0_6, _, w0__0_6⟩ := DataW.trod_int Try.underlying22 hy__0_6
  obtain ⟨a0__0_7, ea0__0_7, _, w0__0_7⟩ := DataW.trod_int Try.underlying22 hy__0_7
  obtain ⟨a0__0_8, ea0__0_8, _, w0__0_8⟩ := DataW.trod_int Try.underlying22 hy__0_8
  obtain ⟨a0__0_9, ea0__0_9, _, w0__0_9⟩ := DataW.trod_int Try.underlying22 hy__0_9
  obtain ⟨a0__0_10, ea0__0_10, _, w0__0_10⟩ := DataW.trod_int Try.underlying22 hy__0_10
  obtain ⟨a0__0_11, ea0__0_11, _, w0__0_11⟩ := DataW.trod_int Try.underlying22 hy__0_11
  obtain ⟨a0__0_12, ea0__0_12, _, w0__0_12⟩ := DataW.trod_int Try.underlying22 hy__0_12
  obtain ⟨a0__0_13, ea0__0_13, _, w0__0_13⟩ := DataW.trod_int Try.underlying22 hy__0_13
  obtain ⟨a0__0_14, ea0__0_14, _, w0__0_14⟩ := DataW.trod_int Try.underlying22 hy__0_14
  obtain ⟨a0__0_15, ea0__0_15, _, w0__0_15⟩ := DataW.trod_int Try.underlying22 hy__0_15
  obtain ⟨a0__1, ea0__1, _, w0__1⟩ := DataW.trod_int Try.underlying22 hy__1
  obtain ⟨a0__2, ea0__2, _, w0__2⟩ := DataW.trod_int Try.underlying22 hy__2
  obtain ⟨a0__3, ea0__3, _, w0__3⟩ := DataW.trod_int Try.underlying22 hy__3
  obtain ⟨ys__4, m__4, _, gx__4, _, hl__4, hf__4⟩ := DataW.trod_struct Try.underlying25 hy__4
  obtain ⟨y__4_0, ys__4_t0, rfl, hl__4_0⟩ := len_succ hl__4
  obtain ⟨y__4_1, ys__4_t1, rfl, hl__4_1⟩ := len_succ hl__4_0
  obtain ⟨y__4_2, ys__4_t2, rfl, hl__4_2⟩ := len_succ hl__4_1
  obtain ⟨y__4_3, ys__4_t3, rfl, hl__4_3⟩ := len_succ hl__4_2
  obtain ⟨y__4_4, ys__4_t4, rfl, hl__4_4⟩ := len_succ hl__4_3
  obtain rfl := List.eq_nil_of_length_eq_zero hl__4_4
  have hy__4_0 := hf__4 0 _ rfl
  have hy__4_1 := hf__4 1 _ rfl
  have hy__4_2 := hf__4 2 _ rfl
  have hy__4_3 := hf__4 3 _ rfl
  have hy__4_4 := hf__4 4 _ rfl
  clear hf__4
  simp [c_27, c_23, c_22, c_25, c_3] at hy__4_0 hy__4_1 hy__4_2 hy__4_3 hy__4_4
  obtain ⟨a0__4_0, ea0__4_0, _, w0__4_0⟩ := DataW.trod_int Try.underlying22 hy__4_0
  obtain ⟨a0__4_1, ea0__4_1, _, w0__4_1⟩ := DataW.trod_int Try.underlying22 hy__4_1
  obtain ⟨a0__4_2, ea0__4_2, _, w0__4_2⟩ := DataW.trod_int Try.underlying22 hy__4_2
  obtain ⟨a0__4_3, ea0__4_3, _, w0__4_3⟩ := DataW.trod_int Try.underlying22 hy__4_3
  obtain ⟨a0__4_4, ea0__4_4, _, w0__4_4⟩ := DataW.trod_int Try.underlying22 hy__4_4
  obtain ⟨a0__5, ea0__5, _, w0__5⟩ := DataW.trod_int Try.underlying22 hy__5
  obtain ⟨a0__6, ea0__6, _, w0__6⟩ := DataW.trod_int Try.underlying3 hy__6
  simp at ea0__0_0 ea0__0_1 ea0__0_2 ea0__0_3 ea0__0_4 ea0__0_5 ea0__0_6 ea0__0_7 ea0__0_8 ea0__0_9 ea0__0_10 ea0__0_11 ea0__0_12 ea0__0_13 ea0__0_14 ea0__0_15 ea0__1 ea0__2 ea0__3 ea0__4_0 ea0__4_1 ea0__4_2 ea0__4_3 ea0__4_4 ea0__5 ea0__6
  subst ea0__0_0 ea0__0_1 ea0__0_2 ea0__0_3 ea0__0_4 ea0__0_5 ea0__0_6 ea0__0_7 ea0__0_8 ea0__0_9 ea0__0_10 ea0__0_11 ea0__0_12 ea0__0_13 ea0__0_14 ea0__0_15 ea0__1 ea0__2 ea0__3 ea0__4_0 ea0__4_1 ea0__4_2 ea0__4_3 ea0__4_4 ea0__5 ea0__6
  obtain ⟨a1, rfl, rfl, rfl, w1⟩ := open_int Try.underlying22 (hval 1 22 v1 rfl rfl) h1
  obtain ⟨a2, rfl, rfl, rfl, w2⟩ := open_int Try.underlying22 (hval 2 22 v2 rfl rfl) h2
  obtain ⟨a3, rfl, rfl, rfl, w3⟩ := open_int Try.underlying22 (hval 3 22 v3 rfl rfl) h3
  obtain ⟨a4, rfl, rfl, rfl, w4⟩ := open_int Try.underlying22 (hval 4 22 v4 rfl rfl) h4
  clear hA0 hval0 hsz0 hsz
  refine (Go.Proofs.Ytbgcbnlpjjhmhaa.RegsWalk.RegsStacks_walk a0__0_0 a0__0_1 a0__0_2 a0__0_3 a0__0_4 a0__0_5 a0__0_6 a0__0_7 a0__0_8 a0__0_9 a0__0_10 a0__0_11 a0__0_12 a0__0_13 a0__0_14 a0__0_15 a0__1 a0__2 a0__3 a0__4_0 a0__4_1 a0__4_2 a0__4_3 a0__4_4 a0__5 a0__6 a1 a2 a3 a4 W w0__0_0 w0__0_1 w0__0_2 w0__0_3 w0__0_4 w0__0_5 w0__0_6 w0__0_7 w0__0_8 w0__0_9 w0__0_10 w0__0_11 w0__0_12 w0__0_13 w0__0_14 w0__0_15 w0__1 w0__2 w0__3 w0__4_0 w0__4_1 w0__4_2 w0__4_3 w0__4_4 w0__5 w0__6 w1 w2 w3 w4).mono fun e W' ⟨he, bel⟩ => ?_
  subst he
  exact ⟨_, rfl, _, _, _, [], _, [], hW', trodAll_mk1 (shut_bool Try.underlying4 _), (trodAll_cons_mk (Below.trod laidOut (by kernel_rfl) (of_decide_eq_true (by kernel_rfl)) k0 bel lt0) (trodAll_cons_mk (shut_int Try.underlying22 w1) (trodAll_cons_mk (shut_int Try.underlying22 w2) (trodAll_cons_mk (shut_int Try.underlying22 w3) (trodAll_cons_mk (shut_int Try.underlying22 w4) trodAll_mk0))))), rfl, bel.frame _, fun h => by cases h⟩
theorem over : Rows.regsStacksRow.holds Try.pinned (OpenSpec.ofChange Rows.regsStacksSpec) :=
  OpenClaim.holds_of_wide 9 Try.f9 rfl rfl rfl rfl rfl rfl rfl ⟨rfl, rfl, rfl, rfl, rfl⟩ rfl rfl rfl rfl rfl (by kernel_rfl) Try.func9 (by kernel_rfl)
    (of_decide_eq_true (by kernel_rfl)) (by unfold Func.isWrapper; first | (rw [if_pos (by decide +kernel)]; kernel_rfl) | (rw [if_neg (by decide +kernel)]; exact ⟨rfl, rfl⟩))
    (fun os started H enc _ => lifted os started H enc)
theorem proved : Rows.RegsStacksSaid := over
#print axioms proved
end Go.Proofs.Ytbgcbnlpjjhmhaa.regsStacks
namespace Go.Proofs.Ytbgcbnlpjjhmhaa
/-- The row, under a short name, for the claim. -/
theorem regsStacks_holds : Rows.RegsStacksSaid := regsStacks.proved
end Go.Proofs.Ytbgcbnlpjjhmhaa
