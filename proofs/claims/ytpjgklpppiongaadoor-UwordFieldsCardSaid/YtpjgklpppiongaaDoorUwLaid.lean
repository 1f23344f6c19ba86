/- What the card's condition gives the walks: the variable's cells. -/
import Derived.Test.YtpjgklpppiongaaDoorRows
import Derived.Test.YtpjgklpppiongaaDoorUwA
import Derived.WalkKit
import Derived.ProofKit
import Derived.LaidMore
import Derived.OpenShut
import Derived.Stop.Joined
namespace Go.Proofs.YtpjgklpppiongaaDoor.UwWalk
open Go.ChangeShapes Go.WideShapes Go.ChangeAt Go.WideMaps Go.WideElems Go.RowKit
set_option linter.unusedVariables false
theorem gFields : Tryd.prog.globalNamed "camshaft/uword.fields" = some 0 := by kernel_rfl
theorem tFields : (Tryd.prog.globals[0]?).map (·.type) = some 55 := by kernel_rfl
def laid1 : List (String × DataW Unit) := [("camshaft/uword.fields", Rows.laid_camshaft_uword_fields)]
theorem door_met (os : Os) (args : Array Value) : laidMetH Tryd.prog laid1 ((World.doorLaid Tryd.prog 400 os).forCall (fun _ _ => 0) ⟨#[], args, []⟩).memory :=
  laidMetH_of_parts3 (fuel := 8) (laidMet_of_run' 8 (by kernel_rfl) (by kernel_rfl)) (by kernel_rfl) (by kernel_rfl)
theorem elem_of {H : Type} {enc : TypeId × Value → H} {W : World} {base m : Nat} {sp : Nat → Bool} {held : Bool} {l : List Value} {y : DataW H × List MemPlace} (h : DataW.trod enc Tryd.prog W base sp held m 48 l = some y) (s : ByteArray) (n : Int)
    (hy : y.1 = .agg [.lit (.string s.data.toList), .lit (.int .i64 n)]) : l = [.string s, .int .i64 n] := by
  obtain ⟨ys, m0, _, rfl, hlen, hl, hf⟩ := DataW.trod_struct Tryd.underlying48 h
  have c48 : Tryd.prog.cellsOf 48 = 2 := by kernel_rfl
  have c9 : Tryd.prog.cellsOf 9 = 1 := by kernel_rfl
  have c3 : Tryd.prog.cellsOf 3 = 1 := by kernel_rfl
  rw [c48] at hlen
  match ys, hl with
  | [y0, y1], _ =>
  match l, hlen with
  | [l0, l1], _ =>
    have h0 := hf 0 _ rfl
    have h1 := hf 1 _ rfl
    simp [c9, c3] at h0 h1
    obtain ⟨s0, e0, rfl, _⟩ := DataW.trod_string Tryd.underlying9 h0
    obtain ⟨n0, e1, rfl, _⟩ := DataW.trod_int Tryd.underlying3 h1
    simp at e0 e1 hy
    subst e0 e1
    obtain ⟨hs, hn⟩ := hy
    subst hn
    have : s0 = s := by
      cases s0; cases s; simp_all
    rw [this]
theorem pair_at {l : List Value} {i : Nat} {a b : Value} (h : (l.drop i).take 2 = [a, b]) : l[i]? = some a ∧ l[i + 1]? = some b := by
  have h0 : ((l.drop i).take 2)[0]? = some a := by rw [h]; rfl
  have h1 : ((l.drop i).take 2)[1]? = some b := by rw [h]; rfl
  rw [List.getElem?_take, if_pos (by decide), List.getElem?_drop] at h0 h1
  exact ⟨h0, h1⟩
theorem of_laid {W : World} (h : laidMetH Tryd.prog laid1 W) : FieldsAt W := by
  rw [MakeChecks.laidMetH_plain _ _ _ (by kernel_rfl)] at h
  obtain ⟨ps, ⟨g0, t0, cs0, f0, p0, q0, hg0, ht0, hv0, hd0, _, _⟩, _, _⟩ := h
  obtain rfl := Option.some.inj (gFields.symm.trans hg0)
  obtain rfl := Option.some.inj (tFields.symm.trans ht0)
  obtain ⟨xs, m1, rfl, hx1, hlen, hn12, hel⟩ := DataW.trod_array Tryd.underlying55 hd0
  have c48 : Tryd.prog.cellsOf 48 = 2 := by kernel_rfl
  rw [c48] at hel
  simp only [Prod.mk.injEq] at hx1
  have hx := hx1.1
  clear hx1 hd0
  match xs, hn12, hx, hel with
  | [x0, x1, x2, x3, x4, x5, x6, x7, x8, x9, x10, x11], _, hx, hel =>
    simp only [Rows.laid_camshaft_uword_fields, List.map_cons, List.map_nil, DataW.agg.injEq, List.cons.injEq, and_true] at hx
    obtain ⟨h0, h1, h2, h3, h4, h5, h6, h7, h8, h9, h10, h11⟩ := hx
    have p0 := pair_at (elem_of (hel 0 (by decide)) ⟨#[97, 108, 117]⟩ 5 (by rw [← h0]))
    have p1 := pair_at (elem_of (hel 1 (by decide)) ⟨#[97]⟩ 6 (by rw [← h1]))
    have p2 := pair_at (elem_of (hel 2 (by decide)) ⟨#[98]⟩ 6 (by rw [← h2]))
    have p3 := pair_at (elem_of (hel 3 (by decide)) ⟨#[100]⟩ 6 (by rw [← h3]))
    have p4 := pair_at (elem_of (hel 4 (by decide)) ⟨#[108, 105, 116]⟩ 8 (by rw [← h4]))
    have p5 := pair_at (elem_of (hel 5 (by decide)) ⟨#[115, 105, 122, 101]⟩ 2 (by rw [← h5]))
    have p6 := pair_at (elem_of (hel 6 (by decide)) ⟨#[99, 99]⟩ 2 (by rw [← h6]))
    have p7 := pair_at (elem_of (hel 7 (by decide)) ⟨#[109, 101, 109]⟩ 4 (by rw [← h7]))
    have p8 := pair_at (elem_of (hel 8 (by decide)) ⟨#[115, 101, 113]⟩ 3 (by rw [← h8]))
    have p9 := pair_at (elem_of (hel 9 (by decide)) ⟨#[99, 111, 110, 100]⟩ 5 (by rw [← h9]))
    have p10 := pair_at (elem_of (hel 10 (by decide)) ⟨#[116, 111]⟩ 11 (by rw [← h10]))
    have p11 := pair_at (elem_of (hel 11 (by decide)) ⟨#[109, 105, 115, 99]⟩ 6 (by rw [← h11]))
    have hc : ∀ j, W.cell? ⟨0, j, none⟩ = cs0.toList[j]? := fun j => by rw [World.var?_cell hg0 hv0 j]; simp
    refine ⟨?_, fun j u hj => ?_⟩
    · have h0 : W.cell? ⟨0, 0, none⟩ = some (.string ⟨#[97, 108, 117]⟩) := (hc 0).trans p0.1
      by_cases q : 0 < W.heap.size
      · exact q
      · unfold World.cell? at h0
        rw [Array.getElem?_eq_none (by show W.heap.size ≤ 0; omega)] at h0; simp at h0
    · rw [hc j]
      match j, hj with
      | 0, hj => exact p0.1.trans hj
      | 1, hj => exact p0.2.trans hj
      | 2, hj => exact p1.1.trans hj
      | 3, hj => exact p1.2.trans hj
      | 4, hj => exact p2.1.trans hj
      | 5, hj => exact p2.2.trans hj
      | 6, hj => exact p3.1.trans hj
      | 7, hj => exact p3.2.trans hj
      | 8, hj => exact p4.1.trans hj
      | 9, hj => exact p4.2.trans hj
      | 10, hj => exact p5.1.trans hj
      | 11, hj => exact p5.2.trans hj
      | 12, hj => exact p6.1.trans hj
      | 13, hj => exact p6.2.trans hj
      | 14, hj => exact p7.1.trans hj
      | 15, hj => exact p7.2.trans hj
      | 16, hj => exact p8.1.trans hj
      | 17, hj => exact p8.2.trans hj
      | 18, hj => exact p9.1.trans hj
      | 19, hj => exact p9.2.trans hj
      | 20, hj => exact p10.1.trans hj
      | 21, hj => exact p10.2.trans hj
      | 22, hj => exact p11.1.trans hj
      | 23, hj => exact p11.2.trans hj
      | n + 24, hj => simp [fieldsL] at hj
end Go.Proofs.YtpjgklpppiongaaDoor.UwWalk
