/- Branch answers what the document says; a branch and the next odd one are never both taken: the pure statement behind PslBranches, and its walk. No condition. -/
import Derived.Test.YtjflepoifdcadaaGPslBranchesx1
import Derived.Test.YtjflepoifdcadaaAid
namespace Go.Proofs.Ytjflepoifdcadaa.Pure
open Go.RowKit Go.Proofs.Ytjflepoifdcadaa.Aid Go.Proofs.Ytjflepoifdcadaa.GPslBranches Go.Proofs.YtjflepoifdcadaaW.PrintWords Go.Proofs.YtjflepoifdcadaaW.PrintLast

theorem alive_is : camshaftlaw06_alive.f = some true := by decide +kernel

theorem known : ∀ n z v c : Bool, camshaftlaw06_PslBranches.f 18 n z v c = some true ∧ camshaftlaw06_PslBranches.f 19 n z v c = some true ∧ camshaftlaw06_PslBranches.f 20 n z v c = some true ∧
    camshaftlaw06_PslBranches.f 21 n z v c = some true ∧ camshaftlaw06_PslBranches.f 22 n z v c = some true ∧ camshaftlaw06_PslBranches.f 23 n z v c = some true ∧ camshaftlaw06_PslBranches.f 24 n z v c = some true ∧
    camshaftlaw06_PslBranches.f 25 n z v c = some true ∧ camshaftlaw06_PslBranches.f 26 n z v c = some true ∧ camshaftlaw06_PslBranches.f 27 n z v c = some true ∧ camshaftlaw06_PslBranches.f 28 n z v c = some true ∧
    camshaftlaw06_PslBranches.f 29 n z v c = some true ∧ camshaftlaw06_PslBranches.f 30 n z v c = some true ∧ camshaftlaw06_PslBranches.f 31 n z v c = some true := by decide +kernel

theorem other (a : Int) (h1 : -9223372036854775808 ≤ a) (h2 : a ≤ 9223372036854775807) (h : a < 18 ∨ 31 < a) (n z v c : Bool) : camshaftlaw06_PslBranches.f a n z v c = some true := by
  unfold camshaftlaw06_PslBranches.f psl_Branch.f camshaftref06_Branch.f
  rw [alive_is, Option.bind_some, if_pos rfl, i64_even a h1 h2, if_neg (by omega), if_neg (by omega), if_neg (by omega), if_neg (by omega), if_neg (by omega), if_neg (by omega), Option.bind_some,
    if_neg (by omega), if_neg (by omega), if_neg (by omega), if_neg (by omega), if_neg (by omega), if_neg (by omega), if_neg (by omega), if_neg (by omega), if_neg (by omega), if_neg (by omega), if_neg (by omega), if_neg (by omega), Option.bind_some]
  rfl

theorem branches_true (a : Int) (h1 : -9223372036854775808 ≤ a) (h2 : a ≤ 9223372036854775807) (n z v c : Bool) : camshaftlaw06_PslBranches.f a n z v c = some true := by
  by_cases h : a < 18 ∨ 31 < a
  · exact other a h1 h2 h n z v c
  · obtain ⟨k0, k1, k2, k3, k4, k5, k6, k7, k8, k9, k10, k11, k12, k13⟩ := known n z v c
    have : a = 18 ∨ a = 19 ∨ a = 20 ∨ a = 21 ∨ a = 22 ∨ a = 23 ∨ a = 24 ∨ a = 25 ∨ a = 26 ∨ a = 27 ∨ a = 28 ∨ a = 29 ∨ a = 30 ∨ a = 31 := by omega
    rcases this with rfl | rfl | rfl | rfl | rfl | rfl | rfl | rfl | rfl | rfl | rfl | rfl | rfl | rfl <;> assumption

theorem branches_walk (a : Int) (n z v c : Bool) (w : World) (wa : (Lit.int .i64 a).wf = true) :
    Calls Try.prog 13 #[.int .i64 a, .agg #[.bool n, .bool z, .bool v, .bool c]] w fun e w' => e = .returned (.bool true) ∧ Below w.heap.size w w' := by
  have h := i64_bounds wa
  exact camshaftlaw06_PslBranches.calls a n z v c true w (branches_true a h.1 h.2 n z v c)

end Go.Proofs.Ytjflepoifdcadaa.Pure
