/- The cells of a call of camshaftlaw21. -/
import Derived.Test.YtiogbgjeimdgmaaWSized
import Derived.Deep.SlicePairs
import Derived.WalkKit
namespace Go.Proofs.YtiogbgjeimdgmaaW.PrintWords
open Go.RowKit Go.Deep
/-- A slice of structs of n cells; F is said of each struct's cells. -/
def IsRowN (n : Nat) (F : World → List Value → Prop) (w : World) (a : Option Addr) (len cap : Nat) : Prop :=
  (len ≤ cap ∧ cap ≤ maxLen) ∧ (0 < len → ∃ x, a = some x ∧ ∀ i, i < len → ∃ vs, F w vs ∧ vs.length = n ∧ ∀ j v, vs[j]? = some v → w.cell? (x.add (i * n + j)) = some v)
section
variable {P : Program} {H : Type} {enc : TypeId × Value → H} {w : World} {base : Nat} {spare : Nat → Bool} {held : Bool}
theorem open_rowsN {t e : TypeId} {n : Nat} {fuel : Nat} {a : Option Addr} {len cap : Nat} {x : DataW H × List MemPlace} {F : World → List Value → Prop} (ht : P.underlying t = some (.slice e)) (ce : P.cellsOf e = n)
    (hF : ∀ k vs y, vs.length = n → DataW.trod enc P w base spare held k e vs = some y → F w vs)
    (h : DataW.trod enc P w base spare held fuel t [.slice a len cap] = some x) : IsRowN n F w a len cap := by
  rcases Go.Deep.open_slice ht h with ⟨hv, _⟩ | ⟨ad, len', cap', m, k, D, Pl, hv, hb, hl, hm', hmm, rfl, hx⟩
  · simp at hv
    obtain ⟨rfl, rfl, rfl⟩ := hv
    exact ⟨⟨Nat.le_refl _, Nat.zero_le _⟩, fun q => absurd q (Nat.lt_irrefl _)⟩
  · simp at hv
    obtain ⟨rfl, rfl, rfl⟩ := hv
    have hlm : len ≤ m := by rw [hmm]; split <;> omega
    refine ⟨⟨hl, hm'⟩, fun _ => ⟨ad, rfl, fun i hi => ?_⟩⟩
    obtain ⟨cs', h1', h2'⟩ := hx i (by omega)
    rw [ce] at h1'
    obtain ⟨_, hlen, hcell⟩ := World.cells?_some h1'
    refine ⟨cs', hF _ _ _ hlen h2', hlen, fun j v hj => ?_⟩
    have hjn : j < n := by have := (List.getElem?_eq_some_iff.1 hj).1; omega
    have e0 := hcell j hjn
    rw [add_add] at e0
    rw [e0]
    exact hj
end
end Go.Proofs.YtiogbgjeimdgmaaW.PrintWords
namespace Go.Proofs.YtiogbgjeimdgmaaW.PrintWords
open Go.RowKit in
def IsRow (k : IntKind) (w : World) (a : Option Addr) (len cap : Nat) (zs : List Int) : Prop :=
  (a = none ∧ len = 0 ∧ cap = 0 ∧ zs = []) ∨
  ∃ x, a = some x ∧ len ≤ cap ∧ cap ≤ maxLen ∧ zs.length = cap ∧ (∀ i, i < zs.length → w.cell? (x.add i) = some (.int k (zs.getD i 0))) ∧ ∀ n ∈ zs, (Lit.int k n).wf = true
end Go.Proofs.YtiogbgjeimdgmaaW.PrintWords
namespace Go.Proofs.YtiogbgjeimdgmaaW.PrintWords
open Go.RowKit
def FCallV (_w : World) (vs : List Value) : Prop := ∃ (kd n va x : Int) (u : Bool) (t1 t2 t3 t4 t5 : Int), vs = [.int .i64 kd, .int .i64 n, .int .u32 va, .int .u32 x, .bool u, .int .u32 t1, .int .u32 t2, .int .u32 t3, .int .u32 t4, .int .u32 t5] ∧
  (Lit.int .i64 kd).wf = true ∧ (Lit.int .i64 n).wf = true ∧ (Lit.int .u32 va).wf = true ∧ (Lit.int .u32 x).wf = true ∧ (Lit.int .u32 t1).wf = true ∧ (Lit.int .u32 t2).wf = true ∧ (Lit.int .u32 t3).wf = true ∧ (Lit.int .u32 t4).wf = true ∧ (Lit.int .u32 t5).wf = true
end Go.Proofs.YtiogbgjeimdgmaaW.PrintWords
