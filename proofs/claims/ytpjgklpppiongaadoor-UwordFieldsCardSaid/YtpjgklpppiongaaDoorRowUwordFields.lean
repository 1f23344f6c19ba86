/- The row of UwordFields: for every input the call returns true, and each argument reads as it did. No condition. -/
import Derived.Test.YtpjgklpppiongaaDoorRows
import Derived.Test.YtpjgklpppiongaaDoorUwLaid
import Derived.Test.YtpjgklpppiongaaDoorUwN
import Derived.LaidMore
import Derived.Stop.Joined
import Derived.SevenTiedAt
import Derived.Test.YtpjgklpppiongaaDoorCards
import Derived.Test.YtpjgklpppiongaaDoorTie
import Derived.WalkKit
import Derived.ProofKit
import Derived.OpenShut
import Derived.ShutString
import Derived.ChangeOld
import Derived.Below
import Derived.Carry
import Derived.SizedLaws
import Derived.Lib.SmallJoins
namespace Go.Proofs.YtpjgklpppiongaaDoor.uwordFields
open Go.ChangeShapes Go.WideShapes Go.ChangeAt Go.RowKit
open Go.ChangeMaps (open_string shut_string)
set_option linter.unusedVariables false
set_option linter.unusedSimpArgs false
theorem own : ownKnob Tryd.prog.godebug = none := by kernel_rfl
theorem len_succ {α : Type} {l : List α} {n : Nat} (h : l.length = n + 1) : ∃ x t, l = x :: t ∧ t.length = n := by
  cases l with
  | nil => simp at h
  | cons x t => exact ⟨x, t, rfl, by simpa using h⟩
theorem laidOut : laidOutB Tryd.prog = true := by kernel_rfl
set_option maxHeartbeats 4000000 in
set_option maxRecDepth 100000 in
theorem lifted (os : Os) (started : os.Started) (H : Type) (enc : TypeId × Value → H) :
    ReturnsInHanded {} Tryd.checked os 8 .any (fun w args => (Rows.uwordFieldsSpec.pre enc Tryd.prog Tryd.f8 [] false w args ∧ laidMetH Tryd.prog Go.Proofs.YtpjgklpppiongaaDoor.UwWalk.laid1 w) ∧ sizedMet enc Tryd.prog Tryd.f8 (OpenSpec.ofChange Rows.uwordFieldsSpec) false w args) (Rows.uwordFieldsSpec.post enc Tryd.prog Tryd.f8 false true false false) := by
  refine returnsInHanded_of_change_and (C := Tryd.checked) (X := fun w _ => laidMetH Tryd.prog Go.Proofs.YtpjgklpppiongaaDoor.UwWalk.laid1 w) (fun _ _ _ hh h => h.of_heap hh) own started (by kernel_rfl) Tryd.func8
    (ChangeSpec.witness_shaped (enc := enc) (C := Tryd.checked) (os := os) (X := fun w _ => laidMetH Tryd.prog Go.Proofs.YtpjgklpppiongaaDoor.UwWalk.laid1 w) false (World.doorLaid Tryd.prog 400 os) #[.agg #[.int .i64 0, .int .i64 0, .int .i64 0, .int .i64 0, .int .i64 0, .int .i64 0, .int .i64 0, .int .i64 0, .int .i64 0, .int .i64 0, .int .i64 0, .int .i64 0], .string ByteArray.empty, .int .i64 0] 8 rfl (World.shaped_of_RefB (by kernel_rfl) (by kernel_rfl)) (by kernel_rfl) (by kernel_rfl) (by kernel_rfl) (Go.Proofs.YtpjgklpppiongaaDoor.UwWalk.door_met os _)) ?_
  intro W base args ds gs before hval0 hW hcnd hsz0 hL _
  have hsz : (DataW.weightsEach Tryd.prog (Tryd.f8.params.toList ++ Rows.uwordFieldsSpec.plain.varTypes Tryd.prog) (ds ++ gs)).all (· ≤ reachBytes) = true := hsz0
  have hval : ∀ (j : Nat) t v, Tryd.f8.params[j]? = some t → args[j]? = some v → Value.okWide Tryd.prog W .any base t v := hval0
  have hW' := hW
  obtain ⟨p, q, hA0, hV, rfl, hfz, hnd⟩ := hW
  have hA : DataW.TrodAll enc Tryd.prog W 0 (fun _ => true) true Tryd.f8.params.toList args.toList ds p := hA0
  rw [Tryd.params8] at hA hval hsz
  obtain ⟨v0, vs0, d0, ds0, p0, q0, hargs, rfl, rfl, h0, r0⟩ := trodAll_cons hA
  obtain ⟨v1, vs1, d1, ds1, p1, q1, rfl, rfl, rfl, h1, r1⟩ := trodAll_cons r0
  obtain ⟨v2, vs2, d2, ds2, p2, q2, rfl, rfl, rfl, h2, r2⟩ := trodAll_cons r1
  obtain ⟨rfl, rfl, rfl⟩ := trodAll_nil r2
  obtain rfl : args = #[v0, v1, v2] := by cases args; simp_all
  obtain ⟨rfl, rfl⟩ := trodVars_none hV
  have c_23 : Tryd.prog.cellsOf 23 = 12 := by kernel_rfl
  have c_3 : Tryd.prog.cellsOf 3 = 1 := by kernel_rfl
  have k0 := h0
  have lt0 : ∀ x ∈ p0, x.block < W.heap.size := by obtain ⟨m, hm⟩ := k0; exact DataW.trod_lt m _ _ _ hm
  obtain ⟨cs0, rfl, hsz0⟩ := okWide_struct Tryd.underlying23 (hval 0 23 v0 rfl rfl)
  rw [c_23] at hsz0
  obtain ⟨cl0⟩ := cs0
  have hsz0 : cl0.length = 12 := hsz0
  obtain ⟨k0_0, cl0_t0, rfl, hsz0_0⟩ := len_succ hsz0
  obtain ⟨k0_1, cl0_t1, rfl, hsz0_1⟩ := len_succ hsz0_0
  obtain ⟨k0_2, cl0_t2, rfl, hsz0_2⟩ := len_succ hsz0_1
  obtain ⟨k0_3, cl0_t3, rfl, hsz0_3⟩ := len_succ hsz0_2
  obtain ⟨k0_4, cl0_t4, rfl, hsz0_4⟩ := len_succ hsz0_3
  obtain ⟨k0_5, cl0_t5, rfl, hsz0_5⟩ := len_succ hsz0_4
  obtain ⟨k0_6, cl0_t6, rfl, hsz0_6⟩ := len_succ hsz0_5
  obtain ⟨k0_7, cl0_t7, rfl, hsz0_7⟩ := len_succ hsz0_6
  obtain ⟨k0_8, cl0_t8, rfl, hsz0_8⟩ := len_succ hsz0_7
  obtain ⟨k0_9, cl0_t9, rfl, hsz0_9⟩ := len_succ hsz0_8
  obtain ⟨k0_10, cl0_t10, rfl, hsz0_10⟩ := len_succ hsz0_9
  obtain ⟨k0_11, cl0_t11, rfl, hsz0_11⟩ := len_succ hsz0_10
  obtain rfl := List.eq_nil_of_length_eq_zero hsz0_11
  obtain ⟨fu0, hy_⟩ := h0
  simp only [Value.cells] at hy_
  obtain ⟨ys_, m_, _, gx_, _, hl_, hf_⟩ := DataW.trod_struct Tryd.underlying23 hy_
  obtain ⟨y__0, ys__t0, rfl, hl__0⟩ := len_succ hl_
  obtain ⟨y__1, ys__t1, rfl, hl__1⟩ := len_succ hl__0
  obtain ⟨y__2, ys__t2, rfl, hl__2⟩ := len_succ hl__1
  obtain ⟨y__3, ys__t3, rfl, hl__3⟩ := len_succ hl__2
  obtain ⟨y__4, ys__t4, rfl, hl__4⟩ := len_succ hl__3
  obtain ⟨y__5, ys__t5, rfl, hl__5⟩ := len_succ hl__4
  obtain ⟨y__6, ys__t6, rfl, hl__6⟩ := len_succ hl__5
  obtain ⟨y__7, ys__t7, rfl, hl__7⟩ := len_succ hl__6
  obtain ⟨y__8, ys__t8, rfl, hl__8⟩ := len_succ hl__7
  obtain ⟨y__9, ys__t9, rfl, hl__9⟩ := len_succ hl__8
  obtain ⟨y__10, ys__t10, rfl, hl__10⟩ := len_succ hl__9
  obtain ⟨y__11, ys__t11, rfl, hl__11⟩ := len_succ hl__10
  obtain rfl := List.eq_nil_of_length_eq_zero hl__11
  have hy__0 := hf_ 0 _ rfl
  have hy__1 := hf_ 1 _ rfl
  have hy__2 := hf_ 2 _ rfl
  have hy__3 := hf_ 3 _ rfl
  have hy__4 := hf_ 4 _ rfl
  have hy__5 := hf_ 5 _ rfl
  have hy__6 := hf_ 6 _ rfl
  have hy__7 := hf_ 7 _ rfl
  have hy__8 := hf_ 8 _ rfl
  have hy__9 := hf_ 9 _ rfl
  have hy__10 := hf_ 10 _ rfl
  have hy__11 := hf_ 11 _ rfl
  clear hf_
  simp [c_23, c_3] at hy__0 hy__1 hy__2 hy__3 hy__4 hy__5 hy__6 hy__7 hy__8 hy__9 hy__10 hy__11
  obtain ⟨a0__0, ea0__0, _, w0__0⟩ := DataW.trod_int Tryd.underlying3 hy__0
  obtain ⟨a0__1, ea0__1, _, w0__1⟩ := DataW.trod_int Tryd.underlying3 hy__1
  obtain ⟨a0__2, ea0__2, _, w0__2⟩ := DataW.trod_int Tryd.underlying3 hy__2
  obtain ⟨a0__3, ea0__3, _, w0__3⟩ := DataW.trod_int Tryd.underlying3 hy__3
  obtain ⟨a0__4, ea0__4, _, w0__4⟩ := DataW.trod_int Tryd.underlying3 hy__4
  obtain ⟨a0__5, ea0__5, _, w0__5⟩ := DataW.trod_int Tryd.underlying3 hy__5
  obtain ⟨a0__6, ea0__6, _, w0__6⟩ := DataW.trod_int Tryd.underlying3 hy__6
  obtain ⟨a0__7, ea0__7, _, w0__7⟩ := DataW.trod_int Tryd.underlying3 hy__7
  obtain ⟨a0__8, ea0__8, _, w0__8⟩ := DataW.trod_int Tryd.underlying3 hy__8
  obtain ⟨a0__9, ea0__9, _, w0__9⟩ := DataW.trod_int Tryd.underlying3 hy__9
  obtain ⟨a0__10, ea0__10, _, w0__10⟩ := DataW.trod_int Tryd.underlying3 hy__10
  obtain ⟨a0__11, ea0__11, _, w0__11⟩ := DataW.trod_int Tryd.underlying3 hy__11
  simp at ea0__0 ea0__1 ea0__2 ea0__3 ea0__4 ea0__5 ea0__6 ea0__7 ea0__8 ea0__9 ea0__10 ea0__11
  subst ea0__0 ea0__1 ea0__2 ea0__3 ea0__4 ea0__5 ea0__6 ea0__7 ea0__8 ea0__9 ea0__10 ea0__11
  obtain ⟨a1, rfl, rfl, rfl, w1⟩ := open_string Tryd.underlying9 (hval 1 9 v1 rfl rfl) h1
  obtain ⟨a2, rfl, rfl, rfl, w2⟩ := open_int Tryd.underlying3 (hval 2 3 v2 rfl rfl) h2
  clear hA0 hval0 hsz0 hsz
  refine (Go.Proofs.YtpjgklpppiongaaDoor.UwWalk.UwordFields_walk a0__0 a0__1 a0__2 a0__3 a0__4 a0__5 a0__6 a0__7 a0__8 a0__9 a0__10 a0__11 a1 a2 W (Go.Proofs.YtpjgklpppiongaaDoor.UwWalk.of_laid hL) w0__0 w0__1 w0__2 w0__3 w0__4 w0__5 w0__6 w0__7 w0__8 w0__9 w0__10 w0__11 w1 w2).mono fun e W' ⟨he, bel⟩ => ?_
  subst he
  exact ⟨_, rfl, _, _, _, [], _, [], hW', trodAll_mk1 (shut_bool Tryd.underlying4 _), (trodAll_cons_mk (Below.trod laidOut (by kernel_rfl) (of_decide_eq_true (by kernel_rfl)) k0 bel lt0) (trodAll_cons_mk (shut_string Tryd.underlying9 w1) (trodAll_cons_mk (shut_int Tryd.underlying3 w2) trodAll_mk0))), rfl, bel.frame _, fun h => by cases h⟩
theorem over : Rows.uwordFieldsRow.holds Tryd.pinned (OpenSpec.ofChange Rows.uwordFieldsSpec) :=
  OpenClaim.holds_of_wide 8 Tryd.f8 rfl rfl rfl rfl rfl rfl rfl ⟨rfl, rfl, rfl, rfl, rfl⟩ rfl rfl rfl rfl rfl (by kernel_rfl) Tryd.func8 (by kernel_rfl)
    (of_decide_eq_true (by kernel_rfl)) (by unfold Func.isWrapper; first | (rw [if_pos (by decide +kernel)]; kernel_rfl) | (rw [if_neg (by decide +kernel)]; exact ⟨rfl, rfl⟩))
    (fun os started H enc _ => lifted os started H enc)
theorem card : Rows.UwordFieldsCardSaid :=
  Claim7.holds_tied_plain_at .later [] [.widerDeep] true (true, "d21b1e2cd388afad9229aa832c3582c370537631650dcbaba1ff2a89cd4ae5b9") false
    over (fun _ h => by cases h) (by kernel_rfl) (fun _ h => by cases h) uwordFields_row_tie rfl ⟨rfl, rfl⟩ (by kernel_rfl) rfl
    (fun f fn hf hfn => by
      obtain rfl : f = 8 := Option.some.inj ((show Tryd.prog.funcNamed "camshaft/camshaftlaw14.UwordFields" = some 8 by kernel_rfl).symm.trans hf) |>.symm
      obtain rfl : fn = Tryd.f8 := (Option.some.inj (Tryd.func8.symm.trans hfn)).symm
      exact ⟨by kernel_rfl, fun j t ht => by
        rw [Tryd.params8] at ht
        have hm : t ∈ [3, 9, 23] := by have := Array.mem_of_getElem? ht; simp at this; simp; first | omega | grind
        have hall : ([3, 9, 23].all fun u => !Tryd.prog.wantsStandIn u) = true := by kernel_rfl
        exact (show Tryd.prog.wantsStandIn t = false by simpa using List.all_eq_true.1 hall t hm)⟩)
    (by kernel_rfl)
theorem proved : Rows.UwordFieldsCardSaid := card
#print axioms proved
end Go.Proofs.YtpjgklpppiongaaDoor.uwordFields
namespace Go.Proofs.YtpjgklpppiongaaDoor
/-- The row, under a short name, for the claim. -/
theorem uwordFields_holds : Rows.UwordFieldsCardSaid := uwordFields.proved
end Go.Proofs.YtpjgklpppiongaaDoor
