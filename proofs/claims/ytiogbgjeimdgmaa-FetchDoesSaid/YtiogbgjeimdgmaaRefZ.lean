/- The scripts of camshaftlaw21: a script's row. -/
import Derived.Test.YtiogbgjeimdgmaaRefY
import Derived.Test.YtiogbgjeimdgmaaRowsF
namespace Go.Proofs.Ytiogbgjeimdgmaa.RefWalk
open Go.RowKit Go.Proofs.Ytiogbgjeimdgmaa.Aid Go.Proofs.YtiogbgjeimdgmaaW.PrintWords Go.Proofs.YtiogbgjeimdgmaaW.PrintMore
open Go.Proofs.Ytiogbgjeimdgmaa.MmuWalk (Chg R32 Flt fltV noF Tabs mTy)
set_option linter.unusedVariables false
set_option linter.unusedSimpArgs false
structure FCal where
  kind : Int
  n : Int
  va : Int
  x : Int
  u : Bool
  T : Tabs
def FCal.cells (c : FCal) : Array Value := #[.int .i64 c.kind, .int .i64 c.n, .int .u32 c.va, .int .u32 c.x, .bool c.u, .int .u32 c.T.p0b, .int .u32 c.T.p0l, .int .u32 c.T.sb, .int .u32 c.T.sl, .int .u32 c.T.men]
def FCal.none : FCal := ⟨0, 0, 0, 0, false, ⟨0, 0, 0, 0, 0⟩⟩
def gF (cs : List FCal) (i : Nat) : FCal := cs.getD i .none
structure FOk (c : FCal) : Prop where
  n : -9223372036854775808 ≤ c.n ∧ c.n ≤ 9223372036854775807
  va : R32 c.va
  x : R32 c.x
  T : c.T.ok
def FRow (W : World) (A : Option Addr) (cs : List FCal) : Prop := 0 < cs.length → ∃ b off, A = some ⟨b, off, Option.none⟩ ∧ b < W.heap.size ∧ ∀ i, i < cs.length → ∀ j v, (gF cs i).cells[j]? = some v → W.cell? ⟨b, off + i * 10 + j, Option.none⟩ = some v
theorem fRow {w : World} {A : Option Addr} {len cap : Nat} (h : IsRowN 10 FCallV w A len cap) : ∃ cs : List FCal, cs.length = len ∧ FRow w A cs ∧ ∀ i, i < len → FOk (gF cs i) := by
  by_cases hp : 0 < len
  · obtain ⟨x, rfl, hx⟩ := h.2 hp
    obtain ⟨b, off, spot⟩ := x
    have hsb : spot = Option.none ∧ b < w.heap.size := by
      obtain ⟨vs, ⟨kd, n, va, x, u, t1, t2, t3, t4, t5, rfl, _⟩, _, hc⟩ := hx 0 hp
      have c0 := hc 0 _ rfl
      exact ⟨by simpa [Addr.add] using World.cell?_spot c0, by simpa [Addr.add] using World.block_lt_of_cell? w _ c0⟩
    obtain ⟨rfl, hb⟩ := hsb
    have ap : ∀ (o i : Nat), ((⟨b, o, Option.none⟩ : Addr).add i) = ⟨b, o + i, Option.none⟩ := by
      intro o i
      unfold Addr.add
      by_cases hi : i = 0 <;> simp [hi]
    have r : ∀ {x : Int}, (Lit.int .u32 x).wf = true → R32 x := fun {x} h => by
      obtain ⟨n, rfl, hn⟩ := u32_nat h
      unfold R32; omega
    obtain ⟨cs, hl, he⟩ := ex_list05 FCal.none (fun i (e : FCal) => (∀ j v, e.cells[j]? = some v → w.cell? ⟨b, off + i * 10 + j, Option.none⟩ = some v) ∧ FOk e) len (fun i hi => by
      obtain ⟨vs, ⟨kd, n, va, x, u, t1, t2, t3, t4, t5, rfl, k0, k1, k2, k3, k4, k5, k6, k7, k8⟩, _, hc⟩ := hx i hi
      refine ⟨⟨kd, n, va, x, u, ⟨t1, t2, t3, t4, t5⟩⟩, fun j v hj => ?_, ⟨i64_wf k1, r k2, r k3, ⟨r k4, r k5, r k6, r k7, r k8⟩⟩⟩
      have := hc j v (by simpa [FCal.cells] using hj)
      rw [ap] at this
      rw [Nat.add_assoc]; exact this)
    exact ⟨cs, hl, fun _ => ⟨b, off, rfl, hb, fun i hi => (he i (by omega)).1⟩, fun i hi => (he i hi).2⟩
  · exact ⟨[], by simp; omega, fun h => absurd h (by simp), fun i hi => by omega⟩
theorem oTy_fcall : oTy 85 ∧ 85 ≠ 109 ∧ 85 ≠ 83 := by unfold oTy mTy rTy; decide
theorem oTy_ffault : oTy 47 ∧ 47 ≠ 109 ∧ 47 ≠ 83 := by unfold oTy mTy rTy; decide
end Go.Proofs.Ytiogbgjeimdgmaa.RefWalk
