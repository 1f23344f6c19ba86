/- The words' laws of layer 14: Fields, as its row asks for it. -/
import Derived.Test.YtpjgklpppiongaaDoorUwPacks
import Derived.Test.YtpjgklpppiongaaDoorUwL
namespace Go.Proofs.YtpjgklpppiongaaDoor.UwWalk
open Go.RowKit Go.Proofs.YtpjgklpppiongaaDoor.Aid Go.Proofs.YtpjgklpppiongaaDoorW.PrintWords Go.Proofs.YtpjgklpppiongaaDoorW.PrintLast Go.Proofs.YtpjgklpppiongaaDoorW.PrintMore
set_option linter.unusedVariables false
theorem fields_walk (w : World) (a : Nat → Int) (s : ByteArray) (x : Int) (hF : FieldsAt w) (hs : s.size ≤ maxLen) :
    Calls Tryd.prog 8 #[.agg (wcells a), .string s, .int .i64 x] w fun e w' => e = .returned (.bool true) ∧ Below w.heap.size w w' := by
  by_cases hl : 256 < s.size
  · exact fields_long w a s x hF hl hs
  · rcases idx_cases s 12 with h | ⟨k, hk, h, hn⟩
    · exact fields_ok w a a s x 5 (-1) 0 0 hF hl (fun W => rat_no W s h) (fun W hF => bits_no W s h hF) (fun W hF => get_no W a s h hF) (fun W hF => set_none W a s x h hF) (fun W => rset_none W a s x h) (.inl ⟨rfl, rfl, rfl⟩) (.inl rfl)
    · have hp : ((2 ^ fb k : Nat) : Int) = 2 ^ fb k := by simp
      by_cases hf : fitsV x (fb k) = true
      · have hd := of_decide_eq_true hf
        refine fields_ok w a (updF a k x) s x 0 k (fb k) (a k) hF hl (fun W => rat_yes W s k h) (fun W hF => bits_yes W s k hk h hF) (fun W hF => get_yes W a s k hk h hF) (fun W hF => set_ok W a s x k hk h hf hF) (fun W => rset_ok W a s x k hk h hd.1 (by unfold wideF; rw [hp]; exact hd.2)) (.inr ⟨k, hk, rfl, rfl, rfl⟩) (.inr ⟨rfl, fun W hF => ?_⟩)
        have := get_yes W (updF a k x) s k hk h hF
        rw [updF_at] at this
        exact this
      · have hd := of_decide_eq_false (Bool.eq_false_iff.2 hf)
        refine fields_ok w a a s x 1 k (fb k) (a k) hF hl (fun W => rat_yes W s k h) (fun W hF => bits_yes W s k hk h hF) (fun W hF => get_yes W a s k hk h hF) (fun W hF => set_bad W a s x k hk h (Bool.eq_false_iff.2 hf) hF) (fun W => ?_) (.inr ⟨k, hk, rfl, rfl, rfl⟩) (.inl rfl)
        by_cases hx : x < 0
        · exact rset_neg W a s x k hk h hx
        · exact rset_big W a s x k hk h (by omega) (by unfold wideF; rw [hp]; exact Int.not_lt.1 fun q => hd ⟨by omega, q⟩)
theorem UwordFields_walk (a0 a1 a2 a3 a4 a5 a6 a7 a8 a9 a10 a11 : Int) (s : ByteArray) (x : Int) (W : World) (hF : FieldsAt W) (w0 : (Lit.int .i64 a0).wf = true) (w1 : (Lit.int .i64 a1).wf = true) (w2 : (Lit.int .i64 a2).wf = true) (w3 : (Lit.int .i64 a3).wf = true) (w4 : (Lit.int .i64 a4).wf = true) (w5 : (Lit.int .i64 a5).wf = true) (w6 : (Lit.int .i64 a6).wf = true) (w7 : (Lit.int .i64 a7).wf = true) (w8 : (Lit.int .i64 a8).wf = true) (w9 : (Lit.int .i64 a9).wf = true) (w10 : (Lit.int .i64 a10).wf = true) (w11 : (Lit.int .i64 a11).wf = true) (hs : s.size ≤ maxLen) (wx : (Lit.int .i64 x).wf = true) :
    Calls Tryd.prog 8 #[.agg #[.int .i64 a0, .int .i64 a1, .int .i64 a2, .int .i64 a3, .int .i64 a4, .int .i64 a5, .int .i64 a6, .int .i64 a7, .int .i64 a8, .int .i64 a9, .int .i64 a10, .int .i64 a11], .string s, .int .i64 x] W fun e w' => e = .returned (.bool true) ∧ Below W.heap.size W w' :=
  fields_walk W (of12 a0 a1 a2 a3 a4 a5 a6 a7 a8 a9 a10 a11) s x hF hs
end Go.Proofs.YtpjgklpppiongaaDoor.UwWalk
