/- Slices of structs of three one-cell fields, opened. -/
import Derived.Test.YtbgcbnlpjjhmhaaWSized
import Derived.Deep.SlicePairs
import Derived.WalkKit
namespace Go.Proofs.YtbgcbnlpjjhmhaaW.PrintWords
open Go.RowKit Go.Deep
/-- A value is a number of its kind; a truth. -/
def IntV (k : IntKind) (v : Value) : Prop := ∃ n, v = .int k n ∧ (Lit.int k n).wf = true
def BoolV (v : Value) : Prop := ∃ b, v = .bool b
/-- A slice of structs of three one-cell fields. -/
def IsRow3 (F0 F1 F2 : Value → Prop) (w : World) (a : Option Addr) (len cap : Nat) : Prop :=
  len ≤ cap ∧ (0 < len → ∃ x, a = some x ∧ ∀ i, i < len → ∃ v0 v1 v2, F0 v0 ∧ F1 v1 ∧ F2 v2 ∧ w.cell? (x.add (i * 3)) = some v0 ∧ w.cell? (x.add (i * 3 + 1)) = some v1 ∧ w.cell? (x.add (i * 3 + 2)) = some v2)
section
variable {P : Program} {H : Type} {enc : TypeId × Value → H} {w : World} {base : Nat} {spare : Nat → Bool} {held : Bool}
theorem open_rows3 {t e : TypeId} {f0 f1 f2 : Field} {fuel : Nat} {a : Option Addr} {len cap : Nat} {x : DataW H × List MemPlace} {F0 F1 F2 : Value → Prop} (ht : P.underlying t = some (.slice e)) (he : P.underlying e = some (.struct #[f0, f1, f2]))
    (ce : P.cellsOf e = 3) (o0 : f0.offset = 0) (o1 : f1.offset = 1) (o2 : f2.offset = 2) (c0 : P.cellsOf f0.type = 1) (c1 : P.cellsOf f1.type = 1) (c2 : P.cellsOf f2.type = 1)
    (h0 : ∀ n v y, DataW.trod enc P w base spare held n f0.type [v] = some y → F0 v) (h1 : ∀ n v y, DataW.trod enc P w base spare held n f1.type [v] = some y → F1 v) (h2 : ∀ n v y, DataW.trod enc P w base spare held n f2.type [v] = some y → F2 v)
    (h : DataW.trod enc P w base spare held fuel t [.slice a len cap] = some x) : IsRow3 F0 F1 F2 w a len cap := by
  rcases Go.Deep.open_slice ht h with ⟨hv, _⟩ | ⟨ad, len', cap', m, n, D, Pl, hv, hb, hl, hm, hmm, rfl, hx⟩
  · simp at hv
    obtain ⟨rfl, rfl, rfl⟩ := hv
    exact ⟨Nat.le_refl _, fun q => absurd q (Nat.lt_irrefl _)⟩
  · simp at hv
    obtain ⟨rfl, rfl, rfl⟩ := hv
    have hlm : len ≤ m := by rw [hmm]; split <;> omega
    refine ⟨hl, fun _ => ⟨ad, rfl, fun i hi => ?_⟩⟩
    obtain ⟨cs', h1', h2'⟩ := hx i (by omega)
    rw [ce] at h1'
    obtain ⟨_, hlen, hcell⟩ := World.cells?_some h1'
    obtain ⟨xs, k, hk, hxy, _, hxl, hf⟩ := DataW.trod_struct he h2'
    match xs, hxl, cs', hlen with
    | [y0, y1, y2], _, [v0, v1, v2], _ =>
      have g0 := hf 0 f0 rfl
      have g1 := hf 1 f1 rfl
      have g2 := hf 2 f2 rfl
      simp [o0, o1, o2, c0, c1, c2] at g0 g1 g2
      have e0 := hcell 0 (by omega)
      have e1 := hcell 1 (by omega)
      have e2 := hcell 2 (by omega)
      rw [add_add] at e0 e1 e2
      exact ⟨v0, v1, v2, h0 _ _ _ g0, h1 _ _ _ g1, h2 _ _ _ g2, by simpa using e0, by simpa using e1, by simpa using e2⟩
end
end Go.Proofs.YtbgcbnlpjjhmhaaW.PrintWords
