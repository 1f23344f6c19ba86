/- Slices of structs of five cells, opened. -/
import Derived.Test.YtbgcbnlpjjhmhaaRows3
import Derived.Deep.SlicePairs
import Derived.WalkKit
namespace Go.Proofs.YtbgcbnlpjjhmhaaW.PrintWords
open Go.RowKit Go.Deep
/-- A slice of structs: a one-cell field, a struct of three, a one-cell field. -/
def IsRow5 (F0 F1 F2 F3 F4 : Value → Prop) (w : World) (a : Option Addr) (len cap : Nat) : Prop :=
  len ≤ cap ∧ (0 < len → ∃ x, a = some x ∧ ∀ i, i < len → ∃ v0 v1 v2 v3 v4, F0 v0 ∧ F1 v1 ∧ F2 v2 ∧ F3 v3 ∧ F4 v4 ∧ w.cell? (x.add (i * 5)) = some v0 ∧ w.cell? (x.add (i * 5 + 1)) = some v1 ∧ w.cell? (x.add (i * 5 + 2)) = some v2 ∧ w.cell? (x.add (i * 5 + 3)) = some v3 ∧ w.cell? (x.add (i * 5 + 4)) = some v4)
section
variable {P : Program} {H : Type} {enc : TypeId × Value → H} {w : World} {base : Nat} {spare : Nat → Bool} {held : Bool}
theorem open_rows5 {t e : TypeId} {f0 fm f4 f1 f2 f3 : Field} {fuel : Nat} {a : Option Addr} {len cap : Nat} {x : DataW H × List MemPlace} {F0 F1 F2 F3 F4 : Value → Prop} (ht : P.underlying t = some (.slice e)) (he : P.underlying e = some (.struct #[f0, fm, f4]))
    (hm : P.underlying fm.type = some (.struct #[f1, f2, f3]))
    (ce : P.cellsOf e = 5) (o0 : f0.offset = 0) (om : fm.offset = 1) (o4 : f4.offset = 4) (o1 : f1.offset = 0) (o2 : f2.offset = 1) (o3 : f3.offset = 2)
    (c0 : P.cellsOf f0.type = 1) (cm : P.cellsOf fm.type = 3) (c4 : P.cellsOf f4.type = 1) (c1 : P.cellsOf f1.type = 1) (c2 : P.cellsOf f2.type = 1) (c3 : P.cellsOf f3.type = 1)
    (h0 : ∀ n v y, DataW.trod enc P w base spare held n f0.type [v] = some y → F0 v) (h1 : ∀ n v y, DataW.trod enc P w base spare held n f1.type [v] = some y → F1 v) (h2 : ∀ n v y, DataW.trod enc P w base spare held n f2.type [v] = some y → F2 v)
    (h3 : ∀ n v y, DataW.trod enc P w base spare held n f3.type [v] = some y → F3 v) (h4 : ∀ n v y, DataW.trod enc P w base spare held n f4.type [v] = some y → F4 v)
    (h : DataW.trod enc P w base spare held fuel t [.slice a len cap] = some x) : IsRow5 F0 F1 F2 F3 F4 w a len cap := by
  rcases Go.Deep.open_slice ht h with ⟨hv, _⟩ | ⟨ad, len', cap', m, n, D, Pl, hv, hb, hl, hm', hmm, rfl, hx⟩
  · simp at hv
    obtain ⟨rfl, rfl, rfl⟩ := hv
    exact ⟨Nat.le_refl _, fun q => absurd q (Nat.lt_irrefl _)⟩
  · simp at hv
    obtain ⟨rfl, rfl, rfl⟩ := hv
    have hlm : len ≤ m := by rw [hmm]; split <;> omega
    refine ⟨hl, fun _ => ⟨ad, rfl, fun i hi => ?_⟩⟩
    obtain ⟨cs', h1', h2'⟩ := hx i (by omega)
    rw [ce] at h1'
    obtain ⟨_, hlen, hcell⟩ := World.cells?_some h1'
    obtain ⟨xs, k, hk, hxy, _, hxl, hf⟩ := DataW.trod_struct he h2'
    match xs, hxl, cs', hlen with
    | [y0, y1, y2], _, [v0, v1, v2, v3, v4], _ =>
      have g0 := hf 0 f0 rfl
      have gm := hf 1 fm rfl
      have g4 := hf 2 f4 rfl
      simp [o0, om, o4, c0, cm, c4] at g0 gm g4
      obtain ⟨xs', k', hk', hxy', _, hxl', hf'⟩ := DataW.trod_struct hm gm
      match xs', hxl' with
      | [z0, z1, z2], _ =>
        have g1 := hf' 0 f1 rfl
        have g2 := hf' 1 f2 rfl
        have g3 := hf' 2 f3 rfl
        simp [o1, o2, o3, c1, c2, c3] at g1 g2 g3
        have e0 := hcell 0 (by omega)
        have e1 := hcell 1 (by omega)
        have e2 := hcell 2 (by omega)
        have e3 := hcell 3 (by omega)
        have e4 := hcell 4 (by omega)
        rw [add_add] at e0 e1 e2 e3 e4
        exact ⟨v0, v1, v2, v3, v4, h0 _ _ _ g0, h1 _ _ _ g1, h2 _ _ _ g2, h3 _ _ _ g3, h4 _ _ _ g4, by simpa using e0, by simpa using e1, by simpa using e2, by simpa using e3, by simpa using e4⟩
end
end Go.Proofs.YtbgcbnlpjjhmhaaW.PrintWords
