/- The words' functions of layer 14, walked: fits, places. -/
import Derived.Test.YtpjgklpppiongaaDoorProg
import Derived.Below
import Derived.Deep.Draws
import Derived.Deep.AppendLies
import Derived.OwnWalk
import Derived.Laws.MakeOwn
import Derived.Laws.OwnMore
import Derived.Laws.CopyOwn
import Derived.Deep.OwnRows
import Derived.Tactics
import Derived.Laws.Slices
import Derived.WalkKit
import Derived.KernelRfl
import Derived.RowKit3
import Derived.Deep.LoopGhost
import Derived.Deep.QuietTactic
import Derived.BigQuiet
import Derived.WideLaws
import Derived.Deep.DeepCutAuto
import Derived.Deep.CutBlock
import Derived.Deep.RegionHeld3
import Derived.Laws.Rows
import Derived.OrdersHeld
import Derived.Laws.BitsLemmas
import Derived.RowKit
import Derived.Test.YtpjgklpppiongaaDoorWMore
import Derived.Test.YtpjgklpppiongaaDoorAid
import Derived.BigRegion
namespace Go.Proofs.YtpjgklpppiongaaDoor.UwWalk
open Go.RowKit Go.Proofs.YtpjgklpppiongaaDoor.Aid Go.Proofs.YtpjgklpppiongaaDoorW.PrintWords Go.Proofs.YtpjgklpppiongaaDoorW.PrintLast Go.Proofs.YtpjgklpppiongaaDoorW.PrintMore
set_option linter.unusedVariables false
set_option linter.unusedSimpArgs false
/-- How many bits each field has. -/
def fb : Nat → Nat
  | 0 => 5 | 1 => 6 | 2 => 6 | 3 => 6 | 4 => 8 | 5 => 2 | 6 => 2 | 7 => 4 | 8 => 3 | 9 => 5 | 10 => 11 | 11 => 6 | _ => 0
/-- Each field's name. -/
def nm : Nat → ByteArray
  | 0 => ⟨#[97, 108, 117]⟩ | 1 => ⟨#[97]⟩ | 2 => ⟨#[98]⟩ | 3 => ⟨#[100]⟩ | 4 => ⟨#[108, 105, 116]⟩ | 5 => ⟨#[115, 105, 122, 101]⟩ | 6 => ⟨#[99, 99]⟩ | 7 => ⟨#[109, 101, 109]⟩ | 8 => ⟨#[115, 101, 113]⟩ | 9 => ⟨#[99, 111, 110, 100]⟩ | 10 => ⟨#[116, 111]⟩ | 11 => ⟨#[109, 105, 115, 99]⟩ | _ => ⟨#[]⟩
/-- What the variable holds. -/
def fieldsL : List Value := [.string ⟨#[97, 108, 117]⟩, .int .i64 5, .string ⟨#[97]⟩, .int .i64 6, .string ⟨#[98]⟩, .int .i64 6, .string ⟨#[100]⟩, .int .i64 6, .string ⟨#[108, 105, 116]⟩, .int .i64 8, .string ⟨#[115, 105, 122, 101]⟩, .int .i64 2, .string ⟨#[99, 99]⟩, .int .i64 2, .string ⟨#[109, 101, 109]⟩, .int .i64 4, .string ⟨#[115, 101, 113]⟩, .int .i64 3, .string ⟨#[99, 111, 110, 100]⟩, .int .i64 5, .string ⟨#[116, 111]⟩, .int .i64 11, .string ⟨#[109, 105, 115, 99]⟩, .int .i64 6]
def FieldsAt (W : World) : Prop := 0 < W.heap.size ∧ ∀ j u, fieldsL[j]? = some u → W.cell? ⟨0, j, none⟩ = some u
theorem FieldsAt.then {W W' : World} (h : FieldsAt W) (b : Below W.heap.size W W') : FieldsAt W' :=
  ⟨Nat.lt_of_lt_of_le h.1 b.size, fun j u hj => (b.cell (p := ⟨0, j, none⟩) h.1).trans (h.2 j u hj)⟩
theorem FieldsAt.bits {W : World} (h : FieldsAt W) (i : Nat) (hi : i < 12) : W.cell? ⟨0, i * 2 + 1, none⟩ = some (.int .i64 (fb i)) := by
  match i, hi with
  | 0, _ => exact h.2 1 _ rfl
  | 1, _ => exact h.2 3 _ rfl
  | 2, _ => exact h.2 5 _ rfl
  | 3, _ => exact h.2 7 _ rfl
  | 4, _ => exact h.2 9 _ rfl
  | 5, _ => exact h.2 11 _ rfl
  | 6, _ => exact h.2 13 _ rfl
  | 7, _ => exact h.2 15 _ rfl
  | 8, _ => exact h.2 17 _ rfl
  | 9, _ => exact h.2 19 _ rfl
  | 10, _ => exact h.2 21 _ rfl
  | 11, _ => exact h.2 23 _ rfl
theorem FieldsAt.name {W : World} (h : FieldsAt W) (i : Nat) (hi : i < 12) : W.cell? ⟨0, i * 2, none⟩ = some (.string (nm i)) := by
  match i, hi with
  | 0, _ => exact h.2 0 _ rfl
  | 1, _ => exact h.2 2 _ rfl
  | 2, _ => exact h.2 4 _ rfl
  | 3, _ => exact h.2 6 _ rfl
  | 4, _ => exact h.2 8 _ rfl
  | 5, _ => exact h.2 10 _ rfl
  | 6, _ => exact h.2 12 _ rfl
  | 7, _ => exact h.2 14 _ rfl
  | 8, _ => exact h.2 16 _ rfl
  | 9, _ => exact h.2 18 _ rfl
  | 10, _ => exact h.2 20 _ rfl
  | 11, _ => exact h.2 22 _ rfl
/-- A word's cells. -/
def wcells (a : Nat → Int) : Array Value := #[.int .i64 (a 0), .int .i64 (a 1), .int .i64 (a 2), .int .i64 (a 3), .int .i64 (a 4), .int .i64 (a 5), .int .i64 (a 6), .int .i64 (a 7), .int .i64 (a 8), .int .i64 (a 9), .int .i64 (a 10), .int .i64 (a 11)]
theorem wcells_at (a : Nat → Int) (i : Nat) (hi : i < 12) : (wcells a)[i]? = some (.int .i64 (a i)) := by
  match i, hi with
  | 0, _ => rfl
  | 1, _ => rfl
  | 2, _ => rfl
  | 3, _ => rfl
  | 4, _ => rfl
  | 5, _ => rfl
  | 6, _ => rfl
  | 7, _ => rfl
  | 8, _ => rfl
  | 9, _ => rfl
  | 10, _ => rfl
  | 11, _ => rfl
def updF (a : Nat → Int) (i : Nat) (x : Int) : Nat → Int := fun j => if j = i then x else a j
theorem wcells_set (a : Nat → Int) (i : Nat) (hi : i < 12) (x : Int) : (wcells a).setIfInBounds i (.int .i64 x) = wcells (updF a i x) := by
  match i, hi with
  | 0, _ => rfl
  | 1, _ => rfl
  | 2, _ => rfl
  | 3, _ => rfl
  | 4, _ => rfl
  | 5, _ => rfl
  | 6, _ => rfl
  | 7, _ => rfl
  | 8, _ => rfl
  | 9, _ => rfl
  | 10, _ => rfl
  | 11, _ => rfl
def WordAt (W : World) (g : Nat) (a : Nat → Int) : Prop := W.heap[g]? = some (.cells (wcells a) 23 (0, 0))
theorem WordAt.lt {W : World} {g : Nat} {a : Nat → Int} (h : WordAt W g a) : g < W.heap.size := (Array.getElem?_eq_some_iff.1 h).1
theorem WordAt.then {W W' : World} {g : Nat} {a : Nat → Int} (h : WordAt W g a) (b : Below W.heap.size W W') : WordAt W' g a := (b.block g h.lt).trans h
theorem WordAt.cell {W : World} {g : Nat} {a : Nat → Int} (h : WordAt W g a) (i : Nat) (hi : i < 12) : W.cell? ⟨g, i, none⟩ = some (.int .i64 (a i)) := (cell_of_row W g i _ _ _ h).trans (wcells_at a i hi)
theorem WordAt.free {W : World} {g : Nat} {a : Nat → Int} (h : WordAt W g a) (j : Nat) : W.frozen? ⟨g, j, none⟩ = false := frozen_of_row W g j _ _ h
/-- Where a word's parts stand. -/
def pcells (g : Nat) : Array Value := #[.pointer (some ⟨g, 0, none⟩), .pointer (some ⟨g, 1, none⟩), .pointer (some ⟨g, 2, none⟩), .pointer (some ⟨g, 3, none⟩), .pointer (some ⟨g, 4, none⟩), .pointer (some ⟨g, 5, none⟩), .pointer (some ⟨g, 6, none⟩), .pointer (some ⟨g, 7, none⟩), .pointer (some ⟨g, 8, none⟩), .pointer (some ⟨g, 9, none⟩), .pointer (some ⟨g, 10, none⟩), .pointer (some ⟨g, 11, none⟩)]
theorem pcells_at (g i : Nat) (hi : i < 12) : (pcells g)[i]? = some (.pointer (some ⟨g, i, none⟩)) := by
  match i, hi with
  | 0, _ => rfl
  | 1, _ => rfl
  | 2, _ => rfl
  | 3, _ => rfl
  | 4, _ => rfl
  | 5, _ => rfl
  | 6, _ => rfl
  | 7, _ => rfl
  | 8, _ => rfl
  | 9, _ => rfl
  | 10, _ => rfl
  | 11, _ => rfl
def PtrsAt (W : World) (q g : Nat) : Prop := W.heap[q]? = some (.cells (pcells g) 54 (0, 0))
theorem PtrsAt.lt {W : World} {q g : Nat} (h : PtrsAt W q g) : q < W.heap.size := (Array.getElem?_eq_some_iff.1 h).1
theorem PtrsAt.then {W W' : World} {q g : Nat} (h : PtrsAt W q g) (b : Below W.heap.size W W') : PtrsAt W' q g := (b.block q h.lt).trans h
theorem PtrsAt.cell {W : World} {q g : Nat} (h : PtrsAt W q g) (i : Nat) (hi : i < 12) : W.cell? ⟨q, i, none⟩ = some (.pointer (some ⟨g, i, none⟩)) := (cell_of_row W q i _ _ _ h).trans (pcells_at g i hi)
/-- Whether a number is not below nothing and has at most b bits. -/
def fitsV (x : Int) (b : Nat) : Bool := decide (0 ≤ x ∧ x < 2 ^ b)
/-- A word's place, its parts' places, the variable. -/
structure UwCtx (W : World) (q g : Nat) (a : Nat → Int) : Prop where
  p : PtrsAt W q g
  w : WordAt W g a
  f : FieldsAt W
theorem UwCtx.then {W W' : World} {q g : Nat} {a : Nat → Int} (h : UwCtx W q g a) (b : Below W.heap.size W W') : UwCtx W' q g a := ⟨h.p.then b, h.w.then b, h.f.then b⟩

theorem fits_call (w : World) (x : Int) (b : Nat) (hb : b ≤ 11) :
    Calls Tryd.prog 27 #[.int .i64 x, .int .i64 b] w fun e w' => e = .returned (.bool (fitsV x b)) ∧ w = w' := by
  have hb0 : (0 : Int) ≤ (b : Int) := by omega
  have hb1 : (b : Int) ≤ 11 := by omega
  by_cases hx : 0 ≤ x
  · go_enter Tryd.func27, Tryd.ntmps27
    go_wp2
    go_ret
    refine ⟨congrArg (fun q => Ending.returned (Value.bool q)) ?_, rfl⟩
    have hp : (0 : Int) < 2 ^ b := Int.pow_pos (by decide)
    unfold fitsV
    by_cases h : x < 2 ^ b
    · rw [decide_eq_true ⟨hx, h⟩, Int.ediv_eq_zero_of_lt hx h]
      rfl
    · rw [decide_eq_false (fun q => h q.2)]
      have h1 : 1 ≤ x / 2 ^ b := by
        rw [Int.le_ediv_iff_mul_le hp]; omega
      generalize x / 2 ^ b = z at h1
      exact beq_eq_false_iff_ne.2 (by omega)
  · go_enter Tryd.func27, Tryd.ntmps27
    go_wp2
    go_ret
    exact ⟨by unfold fitsV; rw [decide_eq_false (fun h => absurd h.1 (by omega))]; rfl, rfl⟩
theorem places_call (w : World) (g : Nat) :
    Calls Tryd.prog 26 #[.pointer (some ⟨g, 0, none⟩)] w fun e w' => ∃ q, e = .returned (.slice (some ⟨q, 0, none⟩) 12 12) ∧ PtrsAt w' q g ∧ Below w.heap.size w w' ∧ w.heap.size ≤ q := by
  go_enter Tryd.func26, Tryd.ntmps26
  go_wp2
  go_region
  go_wp2
  go_ret
  exact ⟨_, rfl, blk_new _ _, (below_alloc (Below.refl _ _) _).drew, Nat.le_refl _⟩
theorem fits_quiet (w : World) (x : Int) (b : Nat) (hb : b ≤ 11) :
    Calls Tryd.prog 27 #[.int .i64 x, .int .i64 b] w fun e w' => e = .returned (.bool (fitsV x b)) ∧ w' = w :=
  (fits_call w x b hb).mono fun e w' h => ⟨h.1, h.2.symm⟩
theorem fb_le (i : Nat) : fb i ≤ 11 := by
  unfold fb
  split <;> decide
/-- Whether each part fits. -/
def goodV (a : Nat → Int) : Bool := (List.range 12).all fun i => fitsV (a i) (fb i)
theorem good_call (w : World) (a : Nat → Int) (hF : FieldsAt w) :
    Calls Tryd.prog 12 #[.agg (wcells a)] w fun e w' => e = .returned (.bool (goodV a)) ∧ Below w.heap.size w w' := by
  have P := Aside0.mk places_call
  have FQ := Aside0.mk (fun w i => fits_quiet w (a i) (fb i) (fb_le i))
  have HF := Aside0.mk hF
  clear hF
  go_enter Tryd.func12, Tryd.ntmps12
  go_wp2_with (first | (go_at_call 26; (with_reducible refine (P.out _ _).mono ?_); rintro e w1 ⟨q, rfl, hp, hb, hq⟩))
  obtain ⟨g, hg⟩ : ∃ g, g = w.heap.size := ⟨_, rfl⟩
  have C : UwCtx w1 q w.heap.size a := ⟨hp, (show WordAt (w.alloc _) w.heap.size a from blk_new _ _).then hb, (HF.out.then (below_alloc (Below.refl _ _) _)).then hb⟩
  have B := Aside0.mk (below_step (below_alloc (Below.refl w.heap.size w) _) hb)
  rw [← hg] at C
  have HC := Aside0.mk C
  clear hp hb hq C hg HF
  go_loopw [7] (fun i wr => ∃ k : Nat, k ≤ 12 ∧ i = .int .i64 k ∧ (∀ j, j < k → fitsV (a j) (fb j) = true) ∧ Below w1.heap.size w1 wr) (fun i _ => 12 - (intOf i).toNat)
  case atStart => exact ⟨0, by omega, rfl, fun j hj => absurd hj (by omega), Below.refl _ _⟩
  case round =>
    obtain ⟨k, hk, rfl, hall, hb⟩ := hrel
    have HA := Aside0.mk hall
    have HB := Aside0.mk hb
    clear hall
    by_cases hk12 : k = 12
    · subst hk12
      clear hb
      go_wp2
      go_ret
      refine ⟨congrArg (fun q => Ending.returned (Value.bool q)) ?_, below_step B.out HB.out⟩
      unfold goodV
      rw [eq_comm, List.all_eq_true]
      intro j hj
      exact HA.out j (List.mem_range.1 hj)
    · have C := HC.out.then hb
      have c1 := C.p.cell k (by omega)
      have c2 := C.w.cell k (by omega)
      have c3 := C.f.bits k (by omega)
      have hk' : k < 12 := by omega
      have hk'' : (k : Int) < 12 := by omega
      have hk0 : (0 : Int) ≤ k := by omega
      clear C hb
      by_cases hf : fitsV (a k) (fb k) = true
      · have FK := Aside0.mk (fun w => FQ.out w k)
        have HF1 := Aside0.mk hf
        rw [hf] at FK
        clear hf FQ
        go_wp2
        go_quiet (first | (go_at_call 27; exact Calls.quiet_of_same (FK.out _)))
        go_wp2
        go_roundw
        case rel => exact ⟨k + 1, by omega, rfl, fun j hj => (Nat.lt_succ_iff_lt_or_eq.1 hj).elim (HA.out j) (fun e => by rw [e]; exact HF1.out), pw_below_drewN HB.out _⟩
        case measure => simp [intOf]; omega
      · have hf' : fitsV (a k) (fb k) = false := Bool.eq_false_iff.2 hf
        have FK := Aside0.mk (fun w => FQ.out w k)
        have HF1 := Aside0.mk hf'
        rw [hf'] at FK
        clear hf FQ hf'
        go_wp2
        go_quiet (first | (go_at_call 27; exact Calls.quiet_of_same (FK.out _)))
        go_wp2
        go_ret
        refine ⟨congrArg (fun q => Ending.returned (Value.bool q)) ?_, below_step B.out (pw_below_drewN HB.out _)⟩
        unfold goodV
        rw [eq_comm]
        exact Bool.eq_false_iff.2 (fun h => by have := List.all_eq_true.1 h k (List.mem_range.2 hk'); rw [HF1.out] at this; exact absurd this (by decide))
end Go.Proofs.YtpjgklpppiongaaDoor.UwWalk
