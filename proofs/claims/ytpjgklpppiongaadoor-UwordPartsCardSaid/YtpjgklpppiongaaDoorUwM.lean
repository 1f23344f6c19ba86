/- The words' laws of layer 14: Parts, as its row asks for it. -/
import Derived.Test.YtpjgklpppiongaaDoorUwPacks
import Derived.Test.YtpjgklpppiongaaDoorUwK
namespace Go.Proofs.YtpjgklpppiongaaDoor.UwWalk
open Go.RowKit Go.Proofs.YtpjgklpppiongaaDoor.Aid Go.Proofs.YtpjgklpppiongaaDoorW.PrintWords Go.Proofs.YtpjgklpppiongaaDoorW.PrintLast Go.Proofs.YtpjgklpppiongaaDoorW.PrintMore
set_option linter.unusedVariables false
def pkN (a : Nat → Int) : Int := if goodV a = true then ((packN (fun i => (a i).toNat) 12 : Nat) : Int) else 0
def pkE (a : Nat → Int) : Int := if goodV a = true then 0 else 1
theorem packAt (a : Nat → Int) : PackAt a (pkN a) (pkE a) := by
  intro W h
  have := pack_call W a h
  unfold pkN pkE
  by_cases hg : goodV a = true
  · rw [if_pos hg] at this ⊢; rw [if_pos hg]; exact this
  · rw [if_neg hg] at this ⊢; rw [if_neg hg]; exact this
theorem held_any (v a : Nat → Int) : Held v a (pkN v) (pkN a) (pkE v) (pkE a) := by
  unfold Held pkN pkE
  by_cases h1 : goodV v = true
  · by_cases h2 : goodV a = true
    · rw [if_pos h1, if_pos h2, if_pos h1, if_pos h2]
      refine .inr (.inr ⟨rfl, rfl, ?_⟩)
      rw [Bool.eq_iff_iff, beq_iff_eq]
      constructor
      · intro e
        have e' : packN (fun i => (v i).toNat) 12 = packN (fun i => (a i).toNat) 12 := by omega
        refine eqW_of v a fun i hi => ?_
        rw [← unpTo_pack v h1 i hi, e', unpTo_pack a h2 i hi]
      · intro e
        rw [packN_congr _ (fun i => (a i).toNat) 12 (fun i hi => by show (v i).toNat = (a i).toNat; rw [eqW_at e i hi])]
    · rw [if_pos h1, if_neg h2]; exact .inr (.inl ⟨rfl, rfl⟩)
  · rw [if_neg h1]; exact .inl rfl
theorem idx_nm : ∀ k, k < 12 → idxN (nm k) 12 = (k : Int) := by
  intro k hk
  match k, hk with
  | 0, _ => decide +kernel
  | 1, _ => decide +kernel
  | 2, _ => decide +kernel
  | 3, _ => decide +kernel
  | 4, _ => decide +kernel
  | 5, _ => decide +kernel
  | 6, _ => decide +kernel
  | 7, _ => decide +kernel
  | 8, _ => decide +kernel
  | 9, _ => decide +kernel
  | 10, _ => decide +kernel
  | 11, _ => decide +kernel
theorem parts_walk (w : World) (v a : Nat → Int) (s : ByteArray) (x : Int) (hF : FieldsAt w) :
    Calls Tryd.prog 6 #[.agg (wcells v), .agg (wcells a), .string s, .int .i64 x] w fun e w' => e = .returned (.bool true) ∧ Below w.heap.size w w' := by
  by_cases e1 : setE s x = 0
  · obtain ⟨i, hi, hii, hni, hfi⟩ := setE_zero e1
    refine parts_ok w v a (updF a i x) s x _ _ _ _ hF (packAt v) (packAt a) (fun W h => set_ok W a s x i hi hii hfi h) (held_any v a) (fun k hk hks => updF_ne _ _ _ _ (fun q => hks (by rw [q]; exact hni))) (fun W h => ?_) (fun b k hk W h => get_yes W b (nm k) k hk (idx_nm k hk) h)
    have := get_yes W (updF a i x) s i hi hii h
    rw [updF_at] at this
    exact this
  · exact parts_err w v a (setW a s x) s x _ _ _ _ _ hF (packAt v) (packAt a) (setAt_any a s x) (held_any v a) (by rw [bne_iff_ne]; exact e1) (by unfold setW; rw [if_neg e1])
theorem UwordParts_walk (b0 b1 b2 b3 b4 b5 b6 b7 b8 b9 b10 b11 a0 a1 a2 a3 a4 a5 a6 a7 a8 a9 a10 a11 : Int) (s : ByteArray) (x : Int) (W : World) (hF : FieldsAt W) (u0 : (Lit.int .i64 b0).wf = true) (u1 : (Lit.int .i64 b1).wf = true) (u2 : (Lit.int .i64 b2).wf = true) (u3 : (Lit.int .i64 b3).wf = true) (u4 : (Lit.int .i64 b4).wf = true) (u5 : (Lit.int .i64 b5).wf = true) (u6 : (Lit.int .i64 b6).wf = true) (u7 : (Lit.int .i64 b7).wf = true) (u8 : (Lit.int .i64 b8).wf = true) (u9 : (Lit.int .i64 b9).wf = true) (u10 : (Lit.int .i64 b10).wf = true) (u11 : (Lit.int .i64 b11).wf = true) (w0 : (Lit.int .i64 a0).wf = true) (w1 : (Lit.int .i64 a1).wf = true) (w2 : (Lit.int .i64 a2).wf = true) (w3 : (Lit.int .i64 a3).wf = true) (w4 : (Lit.int .i64 a4).wf = true) (w5 : (Lit.int .i64 a5).wf = true) (w6 : (Lit.int .i64 a6).wf = true) (w7 : (Lit.int .i64 a7).wf = true) (w8 : (Lit.int .i64 a8).wf = true) (w9 : (Lit.int .i64 a9).wf = true) (w10 : (Lit.int .i64 a10).wf = true) (w11 : (Lit.int .i64 a11).wf = true) (hs : s.size ≤ maxLen) (wx : (Lit.int .i64 x).wf = true) :
    Calls Tryd.prog 6 #[.agg #[.int .i64 b0, .int .i64 b1, .int .i64 b2, .int .i64 b3, .int .i64 b4, .int .i64 b5, .int .i64 b6, .int .i64 b7, .int .i64 b8, .int .i64 b9, .int .i64 b10, .int .i64 b11], .agg #[.int .i64 a0, .int .i64 a1, .int .i64 a2, .int .i64 a3, .int .i64 a4, .int .i64 a5, .int .i64 a6, .int .i64 a7, .int .i64 a8, .int .i64 a9, .int .i64 a10, .int .i64 a11], .string s, .int .i64 x] W fun e w' => e = .returned (.bool true) ∧ Below W.heap.size W w' :=
  parts_walk W (of12 b0 b1 b2 b3 b4 b5 b6 b7 b8 b9 b10 b11) (of12 a0 a1 a2 a3 a4 a5 a6 a7 a8 a9 a10 a11) s x hF
end Go.Proofs.YtpjgklpppiongaaDoor.UwWalk
