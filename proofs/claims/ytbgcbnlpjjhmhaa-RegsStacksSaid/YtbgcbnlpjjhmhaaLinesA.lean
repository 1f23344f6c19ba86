/- The lines' functions of layer 22, walked: the queue's Len, Less, Swap, Push, Pop. -/
import Derived.Test.YtbgcbnlpjjhmhaaProg
import Derived.Below
import Derived.Deep.Draws
import Derived.Deep.AppendLies
import Derived.OwnWalk
import Derived.Laws.MakeOwn
import Derived.Laws.OwnMore
import Derived.Laws.CopyOwn
import Derived.Deep.OwnRows
import Derived.Tactics
import Derived.Laws.Slices
import Derived.WalkKit
import Derived.KernelRfl
import Derived.RowKit3
import Derived.Deep.LoopGhost
import Derived.Deep.QuietTactic
import Derived.BigQuiet
import Derived.WideLaws
import Derived.Deep.DeepCutAuto
import Derived.Deep.CutBlock
import Derived.Deep.RegionHeld3
import Derived.Laws.Rows
import Derived.OrdersHeld
import Derived.Laws.BitsLemmas
import Derived.RowKit
import Derived.Test.YtbgcbnlpjjhmhaaWMore
import Derived.Test.YtbgcbnlpjjhmhaaAid
import Derived.BigRegion
import Derived.Deep.RegionLaw
import Derived.Test.YtbgcbnlpjjhmhaaLinesQ
namespace Go.Proofs.Ytbgcbnlpjjhmhaa.LinesWalk
open Go.RowKit Go.Proofs.Ytbgcbnlpjjhmhaa.Aid Go.Proofs.YtbgcbnlpjjhmhaaW.PrintWords Go.Proofs.YtbgcbnlpjjhmhaaW.PrintLast Go.Proofs.YtbgcbnlpjjhmhaaW.PrintMore Go.Proofs.Ytbgcbnlpjjhmhaa.HeapLaw
attribute [local go_sem] max2_int min2_int max_two min_two max_three min_three max_four min_four   -- for this text's walks alone
set_option linter.unusedVariables false
set_option linter.unusedSimpArgs false
/-! Changes, as cells. -/
def ent4 (e : Ent) : List Value := [.int .i64 e.cy, .int .i64 e.lv, .bool e.on, .int .i64 e.nm]
def cells4 (q : List Ent) : List Value := q.flatMap ent4
theorem cells4_cons (e : Ent) (q : List Ent) : cells4 (e :: q) = .int .i64 e.cy :: .int .i64 e.lv :: .bool e.on :: .int .i64 e.nm :: cells4 q := rfl
theorem cells4_length : ∀ q : List Ent, (cells4 q).length = q.length * 4
  | [] => rfl
  | e :: q => by rw [cells4_cons, List.length_cons, List.length_cons, List.length_cons, List.length_cons, cells4_length q, List.length_cons]; omega
theorem cells4_append : ∀ p q : List Ent, cells4 (p ++ q) = cells4 p ++ cells4 q
  | [], _ => rfl
  | e :: p, q => by rw [List.cons_append, cells4_cons, cells4_append p q, cells4_cons]; rfl
theorem cells4_take : ∀ (q : List Ent) (k : Nat), (cells4 q).take (k * 4) = cells4 (q.take k)
  | _, 0 => by rw [Nat.zero_mul, List.take_zero, List.take_zero]; rfl
  | [], k + 1 => by rw [List.take_nil]; exact List.take_nil
  | e :: q, k + 1 => by
    rw [cells4_cons, show (k + 1) * 4 = k * 4 + 1 + 1 + 1 + 1 from by omega, List.take_succ_cons, List.take_succ_cons, List.take_succ_cons, List.take_succ_cons, cells4_take q k, List.take_succ_cons, cells4_cons]
theorem cells4_at : ∀ (q : List Ent) (k j : Nat), k < q.length → j < 4 → (cells4 q)[k * 4 + j]? = (ent4 (gE q k))[j]?
  | [], _, _, h, _ => absurd h (Nat.not_lt_zero _)
  | e :: q, 0, j, _, hj => by
    rw [Nat.zero_mul, Nat.zero_add]
    show (ent4 e ++ cells4 q)[j]? = _
    rw [List.getElem?_append_left (by exact hj)]
    rfl
  | e :: q, k + 1, j, h, hj => by
    rw [cells4_cons, show (k + 1) * 4 + j = k * 4 + j + 1 + 1 + 1 + 1 from by omega, List.getElem?_cons_succ, List.getElem?_cons_succ, List.getElem?_cons_succ, List.getElem?_cons_succ, cells4_at q k j (by simpa using h) hj]
    show _ = (ent4 (gE (e :: q) (k + 1)))[j]?
    unfold gE
    rw [List.getD_cons_succ]
theorem cells4_one (q : List Ent) : ∀ u ∈ cells4 q, u.oneCell' = true := by
  intro u hu
  unfold cells4 at hu
  obtain ⟨e, _, he⟩ := List.mem_flatMap.1 hu
  simp only [ent4, List.mem_cons, List.not_mem_nil, or_false] at he
  rcases he with rfl | rfl | rfl | rfl <;> rfl
theorem infoE : (Try.prog.info? 88).map (fun i => (i.zero, i.size, i.bytes)) = some (some (.agg #[.int .i64 0, .int .i64 0, .bool false, .int .i64 0]), 4, 32) := by kernel_rfl
/-- A queue's row. -/
def QRow (W : World) (base : Nat) (v : Value) (q : List Ent) : Prop := W.ownsRow base 88 4 v q.length (cells4 q)
theorem QRow.cell {W : World} {base b n c : Nat} {q : List Ent} (h : QRow W base (.slice (some ⟨b, 0, none⟩) n c) q) (k j : Nat) (hk : k < q.length) (hj : j < 4) : W.cell? ⟨b, k * 4 + j, none⟩ = (ent4 (gE q k))[j]? := by
  have hn : n = q.length := by
    rcases h.2 with ⟨hv, _⟩ | ⟨b', c', cur, hv, _⟩
    · simp at hv
    · simp only [Value.slice.injEq] at hv
      exact hv.2.1
  subst hn
  have := World.ownsRow.cellAt h (k * 4 + j) (by omega)
  rw [cells4_at q k j hk hj] at this
  exact this
theorem cells4_set : ∀ (q : List Ent) (k : Nat) (e : Ent), k < q.length → ((((cells4 q).set (k * 4) (.int .i64 e.cy)).set (k * 4 + 1) (.int .i64 e.lv)).set (k * 4 + 2) (.bool e.on)).set (k * 4 + 3) (.int .i64 e.nm) = cells4 (q.set k e)
  | [], _, _, h => absurd h (Nat.not_lt_zero _)
  | x :: q, 0, e, _ => rfl
  | x :: q, k + 1, e, h => by
    rw [cells4_cons, List.set_cons_succ, cells4_cons, ← cells4_set q k e (by simpa using h)]
    rw [show (k + 1) * 4 + 3 = k * 4 + 3 + 1 + 1 + 1 + 1 from by omega, show (k + 1) * 4 + 2 = k * 4 + 2 + 1 + 1 + 1 + 1 from by omega, show (k + 1) * 4 + 1 = k * 4 + 1 + 1 + 1 + 1 + 1 from by omega, show (k + 1) * 4 = k * 4 + 1 + 1 + 1 + 1 from by omega]
    simp only [List.set_cons_succ]
def put4 (W : World) (b k : Nat) (e : Ent) : World := (((W.setCell ⟨b, k * 4, none⟩ (.int .i64 e.cy)).setCell ⟨b, k * 4 + 1, none⟩ (.int .i64 e.lv)).setCell ⟨b, k * 4 + 2, none⟩ (.bool e.on)).setCell ⟨b, k * 4 + 3, none⟩ (.int .i64 e.nm)
theorem own_put4 {W : World} {base b n c : Nat} {q : List Ent} (h : W.ownsRow base 88 4 (.slice (some ⟨b, 0, none⟩) n c) n (cells4 q)) (hq : q.length = n) (k : Nat) (hk : k < n) (e : Ent) :
    (put4 W b k e).ownsRow base 88 4 (.slice (some ⟨b, 0, none⟩) n c) n (cells4 (q.set k e)) ∧ W.grownBy (put4 W b k e) (some b) := by
  have h1 := h.stored (k * 4) (.int .i64 e.cy)
  have h2 := h1.1.stored (k * 4 + 1) (.int .i64 e.lv)
  have h3 := h2.1.stored (k * 4 + 2) (.bool e.on)
  have h4 := h3.1.stored (k * 4 + 3) (.int .i64 e.nm)
  refine ⟨?_, World.grownBy.trans (World.grownBy.trans (World.grownBy.trans h1.2 h2.2) h3.2) h4.2⟩
  have := h4.1
  rw [cells4_set q k e (by omega)] at this
  exact this
theorem grown_drew' {W W' : World} {r : Option Nat} (h : W.grownBy W' r) : W.grownBy W'.drew r := ⟨h.os, h.tape, h.output, h.size, h.block⟩
theorem qrow_drew {W : World} {base : Nat} {v : Value} {q : List Ent} (h : QRow W base v q) : QRow W.drew base v q := h
theorem swap_ne (w : World) (base b n c i j : Nat) (q : List Ent) (hq : q.length = n) (h : QRow w base (.slice (some ⟨b, 0, none⟩) n c) q) (hi : i < n) (hj : j < n) (hn : n ≤ 4096) (hij : i ≠ j) :
    Calls Try.prog 75 #[.slice (some ⟨b, 0, none⟩) n c, .int .i64 i, .int .i64 j] w fun e w' => e = .returned (.tuple #[]) ∧ QRow w' base (.slice (some ⟨b, 0, none⟩) n c) (swapL q i j) ∧ w.grownBy w' (some b) := by
  have i0 := h.cell i 0 (by omega) (by decide)
  have i1 := h.cell i 1 (by omega) (by decide)
  have i2 := h.cell i 2 (by omega) (by decide)
  have i3 := h.cell i 3 (by omega) (by decide)
  have j0 := h.cell j 0 (by omega) (by decide)
  have j1 := h.cell j 1 (by omega) (by decide)
  have j2 := h.cell j 2 (by omega) (by decide)
  have j3 := h.cell j 3 (by omega) (by decide)
  simp only [ent4, List.getElem?_cons_zero, List.getElem?_cons_succ, Nat.add_zero] at i0 i1 i2 i3 j0 j1 j2 j3
  have ho : w.ownsRow base 88 4 (.slice (some ⟨b, 0, none⟩) n c) n (cells4 q) := hq ▸ h
  have fz := World.ownsRow.frozenAt ho
  have hi0 : (0 : Int) ≤ i := by omega
  have hj0 : (0 : Int) ≤ j := by omega
  have hi1 : (i : Int) < n := by omega
  have hj1 : (j : Int) < n := by omega
  have p1 := own_put4 ho hq i hi (gE q j)
  have p2 := own_put4 p1.1 (by rw [List.length_set]; exact hq) j hj (gE q i)
  have P2 := Aside0.mk (show QRow (put4 (put4 w b i (gE q j)) b j (gE q i)).drew base (.slice (some ⟨b, 0, none⟩) n c) (swapL q i j) from qrow_drew (by unfold QRow; rw [swapL_length, hq]; exact p2.1))
  have G2 := Aside0.mk (grown_drew' (World.grownBy.trans p1.2 p2.2))
  clear h ho p1 p2 hq
  have n0 : ¬ i = j := hij
  have n0' : ¬ j = i := fun e => hij e.symm
  have n1 : ¬ j * 4 = i * 4 + 1 := by omega
  have n2 : ¬ j * 4 = i * 4 + 2 := by omega
  have n3 : ¬ j * 4 = i * 4 + 3 := by omega
  have n4 : ¬ i * 4 = j * 4 + 1 := by omega
  have n5 : ¬ i * 4 = j * 4 + 2 := by omega
  have n6 : ¬ i * 4 = j * 4 + 3 := by omega
  have m1 : ¬ i * 4 + 1 = j * 4 := by omega
  have m2 : ¬ i * 4 + 2 = j * 4 := by omega
  have m3 : ¬ i * 4 + 3 = j * 4 := by omega
  have m4 : ¬ j * 4 + 1 = i * 4 := by omega
  have m5 : ¬ j * 4 + 2 = i * 4 := by omega
  have m6 : ¬ j * 4 + 3 = i * 4 := by omega
  unfold put4 at P2 G2
  generalize (gE q i).cy = a0 at *
  generalize (gE q i).lv = a1 at *
  generalize (gE q i).on = a2 at *
  generalize (gE q i).nm = a3 at *
  generalize (gE q j).cy = b0 at *
  generalize (gE q j).lv = b1 at *
  generalize (gE q j).on = b2 at *
  generalize (gE q j).nm = b3 at *
  go_enter Try.func75, Try.ntmps75
  go_wp2
  go_region
  all_goals go_end0
  all_goals exact ⟨rfl, P2.out, G2.out⟩
theorem swap_eq (w : World) (base b n c i : Nat) (q : List Ent) (hq : q.length = n) (h : QRow w base (.slice (some ⟨b, 0, none⟩) n c) q) (hi : i < n) (hn : n ≤ 4096) :
    Calls Try.prog 75 #[.slice (some ⟨b, 0, none⟩) n c, .int .i64 i, .int .i64 i] w fun e w' => e = .returned (.tuple #[]) ∧ QRow w' base (.slice (some ⟨b, 0, none⟩) n c) (swapL q i i) ∧ w.grownBy w' (some b) := by
  have i0 := h.cell i 0 (by omega) (by decide)
  have i1 := h.cell i 1 (by omega) (by decide)
  have i2 := h.cell i 2 (by omega) (by decide)
  have i3 := h.cell i 3 (by omega) (by decide)
  simp only [ent4, List.getElem?_cons_zero, List.getElem?_cons_succ, Nat.add_zero] at i0 i1 i2 i3
  have ho : w.ownsRow base 88 4 (.slice (some ⟨b, 0, none⟩) n c) n (cells4 q) := hq ▸ h
  have fz := World.ownsRow.frozenAt ho
  have hi0 : (0 : Int) ≤ i := by omega
  have hi1 : (i : Int) < n := by omega
  have p1 := own_put4 ho hq i hi (gE q i)
  have p2 := own_put4 p1.1 (by rw [List.length_set]; exact hq) i hi (gE q i)
  have P2 := Aside0.mk (show QRow (put4 (put4 w b i (gE q i)) b i (gE q i)).drew base (.slice (some ⟨b, 0, none⟩) n c) (swapL q i i) from qrow_drew (by unfold QRow; rw [swapL_length, hq]; exact p2.1))
  have G2 := Aside0.mk (grown_drew' (World.grownBy.trans p1.2 p2.2))
  clear h ho p1 p2 hq
  unfold put4 at P2 G2
  generalize (gE q i).cy = a0 at *
  generalize (gE q i).lv = a1 at *
  generalize (gE q i).on = a2 at *
  generalize (gE q i).nm = a3 at *
  go_enter Try.func75, Try.ntmps75
  go_wp2
  go_region
  all_goals go_end0
  all_goals exact ⟨rfl, P2.out, G2.out⟩
theorem swap_call (w : World) (base b n c i j : Nat) (q : List Ent) (hq : q.length = n) (h : QRow w base (.slice (some ⟨b, 0, none⟩) n c) q) (hi : i < n) (hj : j < n) (hn : n ≤ 4096) :
    Calls Try.prog 75 #[.slice (some ⟨b, 0, none⟩) n c, .int .i64 i, .int .i64 j] w fun e w' => e = .returned (.tuple #[]) ∧ QRow w' base (.slice (some ⟨b, 0, none⟩) n c) (swapL q i j) ∧ w.grownBy w' (some b) := by
  by_cases hij : i = j
  · subst hij; exact swap_eq w base b n c i q hq h hi hn
  · exact swap_ne w base b n c i j q hq h hi hj hn hij
theorem len_call (w : World) (A : Option Addr) (n c : Nat) : Calls Try.prog 73 #[.slice A n c] w fun e w' => e = .returned (.int .i64 n) ∧ w = w' := by
  go_enter Try.func73, Try.ntmps73
  go_wp2
  go_ret
  exact ⟨rfl, rfl⟩
theorem less_call (w : World) (base b n c i j : Nat) (q : List Ent) (hq : q.length = n) (h : QRow w base (.slice (some ⟨b, 0, none⟩) n c) q) (hi : i < n) (hj : j < n) :
    Calls Try.prog 74 #[.slice (some ⟨b, 0, none⟩) n c, .int .i64 i, .int .i64 j] w fun e w' => e = .returned (.bool (ltE (gE q i) (gE q j))) ∧ Below w.heap.size w w' := by
  have i0 := h.cell i 0 (by omega) (by decide)
  have i3 := h.cell i 3 (by omega) (by decide)
  have j0 := h.cell j 0 (by omega) (by decide)
  have j3 := h.cell j 3 (by omega) (by decide)
  simp only [ent4, List.getElem?_cons_zero, List.getElem?_cons_succ, Nat.add_zero] at i0 i3 j0 j3
  have hi0 : (0 : Int) ≤ i := by omega
  have hj0 : (0 : Int) ≤ j := by omega
  have hi1 : (i : Int) < n := by omega
  have hj1 : (j : Int) < n := by omega
  unfold ltE
  clear h hq
  generalize (gE q i).cy = a0 at *
  generalize (gE q i).nm = a3 at *
  generalize (gE q j).cy = b0 at *
  generalize (gE q j).nm = b3 at *
  by_cases he : a0 = b0
  · subst he
    have hb : decide (a0 < a0 ∨ (a0 = a0 ∧ a3 < b3)) = decide (a3 < b3) := by
      have : (a0 < a0 ∨ (a0 = a0 ∧ a3 < b3)) ↔ a3 < b3 := by omega
      exact decide_eq_decide.2 this
    rw [hb]
    clear hb
    have hne : (a0 != a0) = false := by simp
    go_enter Try.func74, Try.ntmps74
    go_wp2
    go_quiet (fail)
    go_wp2
    go_quiet (fail)
    go_wp2
    go_ret
    exact ⟨rfl, by first | exact Below.refl _ _ | exact pw_below_drewN (Below.refl _ _) _ | exact pw_below_drewN (pw_below_drewN (Below.refl _ _) _) _⟩
  · have hb : decide (a0 < b0 ∨ (a0 = b0 ∧ a3 < b3)) = decide (a0 < b0) := by
      have : (a0 < b0 ∨ (a0 = b0 ∧ a3 < b3)) ↔ a0 < b0 := by omega
      exact decide_eq_decide.2 this
    rw [hb]
    clear hb
    have hne : (a0 != b0) = true := by rw [bne_iff_ne]; exact he
    go_enter Try.func74, Try.ntmps74
    go_wp2
    go_quiet (fail)
    go_wp2
    go_quiet (fail)
    go_wp2
    go_ret
    exact ⟨rfl, by first | exact Below.refl _ _ | exact pw_below_drewN (Below.refl _ _) _ | exact pw_below_drewN (pw_below_drewN (Below.refl _ _) _) _⟩
end Go.Proofs.Ytbgcbnlpjjhmhaa.LinesWalk
