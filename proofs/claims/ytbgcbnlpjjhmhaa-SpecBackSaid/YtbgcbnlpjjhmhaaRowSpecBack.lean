/- The row of SpecBack: for every input the call returns true, and each argument reads as it did. No condition. -/
import Derived.Test.YtbgcbnlpjjhmhaaRows
import Derived.Test.YtbgcbnlpjjhmhaaSpecBack
import Derived.WalkKit
import Derived.ProofKit
import Derived.OpenShut
import Derived.ShutString
import Derived.ChangeOld
import Derived.Below
import Derived.Carry
import Derived.SizedLaws
import Derived.Lib.SmallJoins
namespace Go.Proofs.Ytbgcbnlpjjhmhaa.specBack
open Go.ChangeShapes Go.WideShapes Go.ChangeAt Go.RowKit
open Go.ChangeMaps (open_string shut_string)
set_option linter.unusedVariables false
set_option linter.unusedSimpArgs false
theorem own : ownKnob Try.prog.godebug = none := by kernel_rfl
theorem len_succ {α : Type} {l : List α} {n : Nat} (h : l.length = n + 1) : ∃ x t, l = x :: t ∧ t.length = n := by
  cases l with
  | nil => simp at h
  | cons x t => exact ⟨x, t, rfl, by simpa using h⟩
theorem laidOut : laidOutB Try.prog = true := by kernel_rfl
set_option maxHeartbeats 4000000 in
set_option maxRecDepth 100000 in
theorem lifted (os : Os) (started : os.Started) (H : Type) (enc : TypeId × Value → H) :
    ReturnsInHanded {} Try.checked os 12 .any (Rows.specBackSpec.pre6 enc Try.prog Try.f12 Rows.specBackRow.domain false) (Rows.specBackSpec.post enc Try.prog Try.f12 false true false false) := by
  refine returnsInHanded_of_change_sized (C := Try.checked) own started (by kernel_rfl) Try.func12
    (ChangeSpec.witness6 (enc := enc) (C := Try.checked) false ⟨#[], #[.agg #[.int .i64 0, .int .i64 0, .int .i64 0, .int .u32 0, .int .i64 0], .agg #[.int .u8 0, .int .i64 0], .slice none 0 0], []⟩ 8 (by kernel_rfl) (by kernel_rfl) (by kernel_rfl) (by kernel_rfl)) ?_
  intro W base args ds gs before hval0 hW hcnd hsz0 _
  have hsz : (DataW.weightsEach Try.prog (Try.f12.params.toList ++ Rows.specBackSpec.plain.varTypes Try.prog) (ds ++ gs)).all (· ≤ reachBytes) = true := hsz0
  have hval : ∀ (j : Nat) t v, Try.f12.params[j]? = some t → args[j]? = some v → Value.okWide Try.prog W .any base t v := hval0
  have hW' := hW
  obtain ⟨p, q, hA0, hV, rfl, hfz, hnd⟩ := hW
  have hA : DataW.TrodAll enc Try.prog W 0 (fun _ => true) true Try.f12.params.toList args.toList ds p := hA0
  rw [Try.params12] at hA hval hsz
  obtain ⟨v0, vs0, d0, ds0, p0, q0, hargs, rfl, rfl, h0, r0⟩ := trodAll_cons hA
  obtain ⟨v1, vs1, d1, ds1, p1, q1, rfl, rfl, rfl, h1, r1⟩ := trodAll_cons r0
  obtain ⟨v2, vs2, d2, ds2, p2, q2, rfl, rfl, rfl, h2, r2⟩ := trodAll_cons r1
  obtain ⟨rfl, rfl, rfl⟩ := trodAll_nil r2
  obtain rfl : args = #[v0, v1, v2] := by cases args; simp_all
  obtain ⟨rfl, rfl⟩ := trodVars_none hV
  have c_66 : Try.prog.cellsOf 66 = 5 := by kernel_rfl
  have c_3 : Try.prog.cellsOf 3 = 1 := by kernel_rfl
  have c_22 : Try.prog.cellsOf 22 = 1 := by kernel_rfl
  have k0 := h0
  have lt0 : ∀ x ∈ p0, x.block < W.heap.size := by obtain ⟨m, hm⟩ := k0; exact DataW.trod_lt m _ _ _ hm
  obtain ⟨cs0, rfl, hsz0⟩ := okWide_struct Try.underlying66 (hval 0 66 v0 rfl rfl)
  rw [c_66] at hsz0
  obtain ⟨cl0⟩ := cs0
  have hsz0 : cl0.length = 5 := hsz0
  obtain ⟨k0_0, cl0_t0, rfl, hsz0_0⟩ := len_succ hsz0
  obtain ⟨k0_1, cl0_t1, rfl, hsz0_1⟩ := len_succ hsz0_0
  obtain ⟨k0_2, cl0_t2, rfl, hsz0_2⟩ := len_succ hsz0_1
  obtain ⟨k0_3, cl0_t3, rfl, hsz0_3⟩ := len_succ hsz0_2
  obtain ⟨k0_4, cl0_t4, rfl, hsz0_4⟩ := len_succ hsz0_3
  obtain rfl := List.eq_nil_of_length_eq_zero hsz0_4
  obtain ⟨fu0, hy_⟩ := h0
  simp only [Value.cells] at hy_
  obtain ⟨ys_, m_, _, gx_, _, hl_, hf_⟩ := DataW.trod_struct Try.underlying66 hy_
  obtain ⟨y__0, ys__t0, rfl, hl__0⟩ := len_succ hl_
  obtain ⟨y__1, ys__t1, rfl, hl__1⟩ := len_succ hl__0
  obtain ⟨y__2, ys__t2, rfl, hl__2⟩ := len_succ hl__1
  obtain ⟨y__3, ys__t3, rfl, hl__3⟩ := len_succ hl__2
  obtain ⟨y__4, ys__t4, rfl, hl__4⟩ := len_succ hl__3
  obtain rfl := List.eq_nil_of_length_eq_zero hl__4
  have hy__0 := hf_ 0 _ rfl
  have hy__1 := hf_ 1 _ rfl
  have hy__2 := hf_ 2 _ rfl
  have hy__3 := hf_ 3 _ rfl
  have hy__4 := hf_ 4 _ rfl
  clear hf_
  simp [c_66, c_3, c_22] at hy__0 hy__1 hy__2 hy__3 hy__4
  obtain ⟨a0__0, ea0__0, _, w0__0⟩ := DataW.trod_int Try.underlying3 hy__0
  obtain ⟨a0__1, ea0__1, _, w0__1⟩ := DataW.trod_int Try.underlying3 hy__1
  obtain ⟨a0__2, ea0__2, _, w0__2⟩ := DataW.trod_int Try.underlying3 hy__2
  obtain ⟨a0__3, ea0__3, _, w0__3⟩ := DataW.trod_int Try.underlying22 hy__3
  obtain ⟨a0__4, ea0__4, _, w0__4⟩ := DataW.trod_int Try.underlying3 hy__4
  simp at ea0__0 ea0__1 ea0__2 ea0__3 ea0__4
  subst ea0__0 ea0__1 ea0__2 ea0__3 ea0__4
  have k1 := h1
  have lt1 : ∀ x ∈ p1, x.block < W.heap.size := by obtain ⟨m, hm⟩ := k1; exact DataW.trod_lt m _ _ _ hm
  obtain ⟨c1_0, c1_1, x1_0, x1_1, _, ev1, _, _, g1_0, g1_1⟩ := Go.Joins.open_agg2 Try.underlying64 (by kernel_rfl) (by kernel_rfl) (hval 1 64 v1 rfl rfl) h1
  obtain ⟨a1_0, e1_0, _, w1_0⟩ := DataW.trod_int Try.underlying5 g1_0
  obtain ⟨a1_1, e1_1, _, w1_1⟩ := DataW.trod_int Try.underlying3 g1_1
  obtain rfl : v1 = .agg #[.int .u8 a1_0, .int .i64 a1_1] := by rw [ev1]; simp at e1_0 e1_1; subst e1_0 e1_1; rfl
  obtain ⟨a2, len2, cap2, rfl⟩ := okWide_slice Try.underlying62 (hval 2 62 v2 rfl rfl)
  have k2 := h2
  have lt2 : ∀ x ∈ p2, x.block < W.heap.size := by obtain ⟨m, hm⟩ := k2; exact DataW.trod_lt m _ _ _ hm
  obtain ⟨z2, w2⟩ : ∃ zs, Go.Proofs.YtbgcbnlpjjhmhaaW.PrintWords.IsRow .u8 W a2 len2 cap2 zs := by
    obtain ⟨fuel, hf⟩ := h2
    rcases open_ints Try.underlying62 Try.underlying5 (by kernel_rfl) hf with ⟨hcs, _⟩ | ⟨x, l, c, zs, hcs, _, hl, hm, hz, _, hcell, hwz⟩
    · simp [Value.cells] at hcs
      obtain ⟨rfl, rfl, rfl⟩ := hcs
      exact ⟨[], .inl ⟨rfl, rfl, rfl, rfl⟩⟩
    · simp [Value.cells] at hcs
      obtain ⟨rfl, rfl, rfl⟩ := hcs
      exact ⟨zs, .inr ⟨_, rfl, hl, hm, by simpa using hz, hcell, hwz⟩⟩
  have y2 : len2 * 1 ≤ 140737488351232 := Go.Proofs.YtbgcbnlpjjhmhaaW.PrintWords.sized_ints hsz (j := 2) (t := 62) rfl rfl Try.underlying62 Try.underlying5 (by kernel_rfl) (by kernel_rfl) h2
  clear hA0 hval0 hsz0 hsz
  refine (Go.Proofs.Ytbgcbnlpjjhmhaa.SpecWalk.SpecBack_walk a0__0 a0__1 a0__2 a0__3 a0__4 a1_0 a1_1 a2 len2 cap2 z2 W w0__0 w0__1 w0__2 w0__3 w0__4 w1_0 w1_1 w2 y2).mono fun e W' ⟨he, bel⟩ => ?_
  subst he
  exact ⟨_, rfl, _, _, _, [], _, [], hW', trodAll_mk1 (shut_bool Try.underlying4 _), (trodAll_cons_mk (Below.trod laidOut (by kernel_rfl) (of_decide_eq_true (by kernel_rfl)) k0 bel lt0) (trodAll_cons_mk (Below.trod laidOut (by kernel_rfl) (of_decide_eq_true (by kernel_rfl)) k1 bel lt1) (trodAll_cons_mk (Below.trod laidOut (by kernel_rfl) (of_decide_eq_true (by kernel_rfl)) k2 bel lt2) trodAll_mk0))), rfl, bel.frame _, fun h => by cases h⟩
theorem over : Rows.specBackRow.holds Try.pinned (OpenSpec.ofChange Rows.specBackSpec) :=
  OpenClaim.holds_of_wide 12 Try.f12 rfl rfl rfl rfl rfl rfl rfl ⟨rfl, rfl, rfl, rfl, rfl⟩ rfl rfl rfl rfl rfl (by kernel_rfl) Try.func12 (by kernel_rfl)
    (of_decide_eq_true (by kernel_rfl)) (by unfold Func.isWrapper; first | (rw [if_pos (by decide +kernel)]; kernel_rfl) | (rw [if_neg (by decide +kernel)]; exact ⟨rfl, rfl⟩))
    (fun os started H enc _ => lifted os started H enc)
theorem proved : Rows.SpecBackSaid := over
#print axioms proved
end Go.Proofs.Ytbgcbnlpjjhmhaa.specBack
namespace Go.Proofs.Ytbgcbnlpjjhmhaa
/-- The row, under a short name, for the claim. -/
theorem specBack_holds : Rows.SpecBackSaid := specBack.proved
end Go.Proofs.Ytbgcbnlpjjhmhaa
