/- The registers' functions of layer 7, walked: New, IsUser, Stack, SetStack, Put. -/
import Derived.Test.YtbgcbnlpjjhmhaaProg
import Derived.Below
import Derived.Deep.Draws
import Derived.Deep.AppendLies
import Derived.OwnWalk
import Derived.Laws.MakeOwn
import Derived.Laws.OwnMore
import Derived.Laws.CopyOwn
import Derived.Deep.OwnRows
import Derived.Tactics
import Derived.Laws.Slices
import Derived.WalkKit
import Derived.KernelRfl
import Derived.RowKit3
import Derived.Deep.LoopGhost
import Derived.Deep.QuietTactic
import Derived.BigQuiet
import Derived.WideLaws
import Derived.Deep.DeepCutAuto
import Derived.Deep.CutBlock
import Derived.Deep.RegionHeld3
import Derived.Laws.Rows
import Derived.OrdersHeld
import Derived.Laws.BitsLemmas
import Derived.RowKit
import Derived.Test.YtbgcbnlpjjhmhaaWMore
import Derived.Test.YtbgcbnlpjjhmhaaAid
import Derived.BigRegion
namespace Go.Proofs.Ytbgcbnlpjjhmhaa.RegsWalk
open Go.RowKit Go.Proofs.Ytbgcbnlpjjhmhaa.Aid Go.Proofs.YtbgcbnlpjjhmhaaW.PrintWords Go.Proofs.YtbgcbnlpjjhmhaaW.PrintLast Go.Proofs.YtbgcbnlpjjhmhaaW.PrintMore
set_option linter.unusedVariables false
set_option linter.unusedSimpArgs false
/-- A file's cells: registers (the fourteenth apart), status, the two stacks' ends, the steps. -/
def fileCells (r : Nat → Int) (s p k u : Int) (v : Value) : Array Value := #[.int .u32 (r 0), .int .u32 (r 1), .int .u32 (r 2), .int .u32 (r 3), .int .u32 (r 4), .int .u32 (r 5), .int .u32 (r 6), .int .u32 (r 7), .int .u32 (r 8), .int .u32 (r 9), .int .u32 (r 10), .int .u32 (r 11), .int .u32 (r 12), .int .u32 (r 13), .int .u32 s, .int .u32 (r 15), .int .u32 p, .int .u32 k, .int .u32 u, v]
/-- A state's cells. -/
def stCells (r : Nat → Int) (s p k u t0 t1 t2 t3 t4 sc h : Int) : Array Value := #[.int .u32 (r 0), .int .u32 (r 1), .int .u32 (r 2), .int .u32 (r 3), .int .u32 (r 4), .int .u32 (r 5), .int .u32 (r 6), .int .u32 (r 7), .int .u32 (r 8), .int .u32 (r 9), .int .u32 (r 10), .int .u32 (r 11), .int .u32 (r 12), .int .u32 (r 13), .int .u32 s, .int .u32 (r 15), .int .u32 p, .int .u32 k, .int .u32 u, .int .u32 t0, .int .u32 t1, .int .u32 t2, .int .u32 t3, .int .u32 t4, .int .u32 sc, .int .i64 h]
def FileAt (W : World) (g : Nat) (r : Nat → Int) (s p k u : Int) (v : Value) : Prop := W.heap[g]? = some (.cells (fileCells r s p k u v) 78 (0, 0))
theorem FileAt.lt {W : World} {g : Nat} {r : Nat → Int} {s p k u : Int} {v : Value} (h : FileAt W g r s p k u v) : g < W.heap.size := (Array.getElem?_eq_some_iff.1 h).1
theorem FileAt.then {W W' : World} {g : Nat} {r : Nat → Int} {s p k u : Int} {v : Value} (h : FileAt W g r s p k u v) (b : Below W.heap.size W W') : FileAt W' g r s p k u v := (b.block g h.lt).trans h
theorem FileAt.free {W : World} {g : Nat} {r : Nat → Int} {s p k u : Int} {v : Value} (h : FileAt W g r s p k u v) (j : Nat) : W.frozen? ⟨g, j, none⟩ = false := frozen_of_row W g j _ _ h
theorem FileAt.cell {W : World} {g : Nat} {r : Nat → Int} {s p k u : Int} {v : Value} (h : FileAt W g r s p k u v) (j : Nat) : W.cell? ⟨g, j, none⟩ = (fileCells r s p k u v)[j]? := cell_of_row W g j _ _ _ h
theorem FileAt.set_s14 {W : World} {g : Nat} {r : Nat → Int} {s p k u : Int} {v : Value} (h : FileAt W g r s p k u v) (x : Int) : FileAt (W.setCell ⟨g, 14, none⟩ (.int .u32 x)) g r x p k u v := blk_put h 14 _ rfl
theorem FileAt.set_psl {W : World} {g : Nat} {r : Nat → Int} {s p k u : Int} {v : Value} (h : FileAt W g r s p k u v) (x : Int) : FileAt (W.setCell ⟨g, 16, none⟩ (.int .u32 x)) g r s x k u v := blk_put h 16 _ rfl
theorem FileAt.set_ksp {W : World} {g : Nat} {r : Nat → Int} {s p k u : Int} {v : Value} (h : FileAt W g r s p k u v) (x : Int) : FileAt (W.setCell ⟨g, 17, none⟩ (.int .u32 x)) g r s p x u v := blk_put h 17 _ rfl
theorem FileAt.set_usp {W : World} {g : Nat} {r : Nat → Int} {s p k u : Int} {v : Value} (h : FileAt W g r s p k u v) (x : Int) : FileAt (W.setCell ⟨g, 18, none⟩ (.int .u32 x)) g r s p k x v := blk_put h 18 _ rfl
theorem FileAt.set_steps {W : World} {g : Nat} {r : Nat → Int} {s p k u : Int} {v : Value} (h : FileAt W g r s p k u v) (x : Value) : FileAt (W.setCell ⟨g, 19, none⟩ x) g r s p k u x := blk_put h 19 _ rfl
/-- Of what was there, block g alone may have turned. -/
structure KeptG (w w' : World) (g : Nat) : Prop where
  os : w'.os = w.os
  tape : w'.tape = w.tape
  output : w'.output = w.output
  size : w.heap.size ≤ w'.heap.size
  block : ∀ k, k < w.heap.size → k ≠ g → w'.heap[k]? = w.heap[k]?
theorem KeptG.refl (w : World) (g : Nat) : KeptG w w g := ⟨rfl, rfl, rfl, Nat.le_refl _, fun _ _ _ => rfl⟩
theorem KeptG.set {w w1 : World} {g : Nat} (h : KeptG w w1 g) (j : Nat) (u : Value) : KeptG w (w1.setCell ⟨g, j, none⟩ u) g :=
  ⟨h.os, h.tape, h.output, by simpa [World.setCell] using h.size, fun i hi h1 => (Below.heap_setCell w1 ⟨g, j, none⟩ u i h1).trans (h.block i hi h1)⟩
theorem KeptG.drewN {w w1 : World} {g : Nat} (h : KeptG w w1 g) (n : Nat) : KeptG w (w1.drewN n) g := ⟨h.os, h.tape, h.output, h.size, h.block⟩
theorem KeptG.drew {w w1 : World} {g : Nat} (h : KeptG w w1 g) : KeptG w w1.drew g := ⟨h.os, h.tape, h.output, h.size, h.block⟩
theorem KeptG.then {w w1 w2 : World} {g : Nat} (h : KeptG w w1 g) (k : Below w1.heap.size w1 w2) : KeptG w w2 g :=
  ⟨k.os.trans h.os, k.tape.trans h.tape, k.output.trans h.output, Nat.le_trans h.size k.size, fun i hi h1 => (k.block i (Nat.lt_of_lt_of_le hi h.size)).trans (h.block i hi h1)⟩
theorem KeptG.below {w0 w w' : World} {g : Nat} (h : KeptG w w' g) (b : Below w0.heap.size w0 w) (hg : w0.heap.size ≤ g) : Below w0.heap.size w0 w' :=
  ⟨h.os.trans b.os, h.tape.trans b.tape, h.output.trans b.output, Nat.le_trans b.size h.size, fun i hi => (h.block i (Nat.lt_of_lt_of_le hi b.size) (by omega)).trans (b.block i hi)⟩
/-- Does the user run? -/
def usr (x : Int) : Bool := Go.bits .and .u32 x 16777216 != 0

theorem rnew_call (w : World) : Calls Try.prog 14 #[] w fun e w' => ∃ g, e = .returned (.pointer (some ⟨g, 0, none⟩)) ∧ FileAt w' g (fun _ => 0) 0 0 0 0 (.slice none 0 0) ∧ Below w.heap.size w w' ∧ w.heap.size ≤ g := by
  go_enter Try.func14, Try.ntmps14
  go_wp2
  go_ret
  exact ⟨w.heap.size, rfl, blk_new _ _, below_alloc (Below.refl _ _) _, Nat.le_refl _⟩
theorem usr_call (w : World) (x : Int) : Calls Try.prog 40 #[.int .u32 x] w fun e w' => e = .returned (.bool (usr x)) ∧ w = w' := by
  go_enter Try.func40, Try.ntmps40
  go_wp2
  go_ret
  exact ⟨rfl, rfl⟩

/-- What Stack tells. -/
def stackV (user : Bool) (s p k u : Int) : Int := if user = usr p then s else if user = true then u else k
theorem stack_call (w : World) (g : Nat) (r : Nat → Int) (s p k u : Int) (v : Value) (user : Bool) (h : FileAt w g r s p k u v) :
    Calls Try.prog 30 #[.pointer (some ⟨g, 0, none⟩), .bool user] w fun e w' => e = .returned (.int .u32 (stackV user s p k u)) ∧ w = w' := by
  have c14 : w.cell? ⟨g, 14, none⟩ = some (.int .u32 s) := h.cell 14
  have c16 : w.cell? ⟨g, 16, none⟩ = some (.int .u32 p) := h.cell 16
  have c17 : w.cell? ⟨g, 17, none⟩ = some (.int .u32 k) := h.cell 17
  have c18 : w.cell? ⟨g, 18, none⟩ = some (.int .u32 u) := h.cell 18
  have A := Aside0.mk (usr_call w p)
  unfold stackV
  clear h
  generalize usr p = b at *
  cases user <;> cases b
  all_goals
    go_enter Try.func30, Try.ntmps30
    go_wp2_with (first | (go_at_call 40; (with_reducible refine (A.out).mono ?_); rintro e w1 ⟨rfl, rfl⟩))
    go_ret
    exact ⟨rfl, rfl⟩

theorem setstack_call (w : World) (g : Nat) (r : Nat → Int) (s p k u : Int) (v : Value) (user : Bool) (x : Int) (h : FileAt w g r s p k u v) :
    Calls Try.prog 28 #[.pointer (some ⟨g, 0, none⟩), .bool user, .int .u32 x] w fun e w' => e = .returned (.tuple #[]) ∧ KeptG w w' g ∧
      FileAt w' g r (if user = usr p then x else s) p (if user = usr p then k else if user = true then k else x) (if user = usr p then u else if user = true then x else u) v := by
  have c14 : w.cell? ⟨g, 14, none⟩ = some (.int .u32 s) := h.cell 14
  have c16 : w.cell? ⟨g, 16, none⟩ = some (.int .u32 p) := h.cell 16
  have c17 : w.cell? ⟨g, 17, none⟩ = some (.int .u32 k) := h.cell 17
  have c18 : w.cell? ⟨g, 18, none⟩ = some (.int .u32 u) := h.cell 18
  have f14 := h.free 14
  have f17 := h.free 17
  have f18 := h.free 18
  have A := Aside0.mk (usr_call w p)
  have H := Aside0.mk h
  clear h
  generalize usr p = b at *
  cases user <;> cases b
  · go_enter Try.func28, Try.ntmps28
    go_wp2_with (first | (go_at_call 40; (with_reducible refine (A.out).mono ?_); rintro e w1 ⟨rfl, rfl⟩))
    first | go_end0 | refine bodyPost_ret (results_none rfl _ _ _) rfl ?_
    exact ⟨rfl, (KeptG.refl _ _).set _ _, H.out.set_s14 x⟩
  · go_enter Try.func28, Try.ntmps28
    go_wp2_with (first | (go_at_call 40; (with_reducible refine (A.out).mono ?_); rintro e w1 ⟨rfl, rfl⟩))
    first | go_end0 | refine bodyPost_ret (results_none rfl _ _ _) rfl ?_
    exact ⟨rfl, (KeptG.refl _ _).set _ _, H.out.set_ksp x⟩
  · go_enter Try.func28, Try.ntmps28
    go_wp2_with (first | (go_at_call 40; (with_reducible refine (A.out).mono ?_); rintro e w1 ⟨rfl, rfl⟩))
    first | go_end0 | refine bodyPost_ret (results_none rfl _ _ _) rfl ?_
    exact ⟨rfl, (KeptG.refl _ _).set _ _, H.out.set_usp x⟩
  · go_enter Try.func28, Try.ntmps28
    go_wp2_with (first | (go_at_call 40; (with_reducible refine (A.out).mono ?_); rintro e w1 ⟨rfl, rfl⟩))
    first | go_end0 | refine bodyPost_ret (results_none rfl _ _ _) rfl ?_
    exact ⟨rfl, (KeptG.refl _ _).set _ _, H.out.set_s14 x⟩
end Go.Proofs.Ytbgcbnlpjjhmhaa.RegsWalk
