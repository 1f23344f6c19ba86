/- The memory's functions of layer 2, walked: what each hands back and leaves. -/
import Derived.Test.YtiogbgjeimdgmaaProg
import Derived.Below
import Derived.Deep.Draws
import Derived.Deep.AppendLies
import Derived.OwnWalk
import Derived.Laws.MakeOwn
import Derived.Laws.OwnMore
import Derived.Laws.CopyOwn
import Derived.Deep.OwnRows
import Derived.Tactics
import Derived.Laws.Slices
import Derived.WalkKit
import Derived.KernelRfl
import Derived.RowKit3
import Derived.Deep.LoopGhost
import Derived.Deep.QuietTactic
import Derived.BigQuiet
import Derived.WideLaws
import Derived.Deep.DeepCutAuto
import Derived.Deep.CutBlock
import Derived.Deep.RegionHeld3
import Derived.Laws.Rows
import Derived.OrdersHeld
import Derived.Laws.BitsLemmas
import Derived.RowKit
import Derived.Test.YtiogbgjeimdgmaaWMore
import Derived.Test.YtiogbgjeimdgmaaAid
namespace Go.Proofs.Ytiogbgjeimdgmaa.RamWalk
open Go.RowKit Go.Proofs.Ytiogbgjeimdgmaa.Aid Go.Proofs.YtiogbgjeimdgmaaW.PrintWords Go.Proofs.YtiogbgjeimdgmaaW.PrintLast Go.Proofs.YtiogbgjeimdgmaaW.PrintMore
attribute [local go_sem] max2_int min2_int max_two min_two max_three min_three max_four min_four   -- for this text's walks alone
set_option linter.unusedVariables false
set_option linter.unusedSimpArgs false
/-- A memory: block g holds its one field, the slice v, which owns the bytes l. -/
def RamAt (W : World) (base g : Nat) (v : Value) (l : List Int) : Prop :=
  W.heap[g]? = some (.cells #[v] 102 (0, 0)) ∧ base ≤ g ∧ W.ownsRow base 5 1 v l.length (nums .u8 l) ∧ (∃ b c, v = .slice (some ⟨b, 0, none⟩) l.length c) ∧ l.length ≤ 16777216
theorem RamAt.drewN {W : World} {base g : Nat} {v : Value} {l : List Int} (h : RamAt W base g v l) (n : Nat) : RamAt (W.drewN n) base g v l := h
theorem RamAt.lower {W : World} {base base' g : Nat} {v : Value} {l : List Int} (h : RamAt W base g v l) (hb : base' ≤ base) : RamAt W base' g v l :=
  ⟨h.1, Nat.le_trans hb h.2.1, own_less h.2.2.1 hb, h.2.2.2⟩
theorem RamAt.lt {W : World} {base g : Nat} {v : Value} {l : List Int} (h : RamAt W base g v l) : g < W.heap.size := (Array.getElem?_eq_some_iff.1 h.1).1
theorem RamAt.kept {W W' : World} {base g : Nat} {v : Value} {l : List Int} {row : Option Nat} (h : RamAt W base g v l) (k : W.grownBy W' row) (h1 : some g ≠ row) (h2 : v.ownBlock ≠ row) : RamAt W' base g v l :=
  ⟨(k.block g h.lt h1).trans h.1, h.2.1, h.2.2.1.kept k (.inr h2), h.2.2.2⟩
theorem RamAt.then {W W' : World} {base g : Nat} {v : Value} {l : List Int} (h : RamAt W base g v l) (k : Below W.heap.size W W') : RamAt W' base g v l := by
  refine ⟨(k.block g h.lt).trans h.1, h.2.1, ?_, h.2.2.2⟩
  refine h.2.2.1.kept (row := none) ⟨k.os, k.tape, k.output, k.size, fun i hi _ => k.block i hi⟩ ?_
  obtain ⟨b, c, rfl⟩ := h.2.2.2.1
  exact .inr (by simp [Value.ownBlock])
/-- Of a memory: its field's cell; each byte's cell. -/
theorem RamAt.field {W : World} {base g b c n : Nat} {l : List Int} (h : RamAt W base g (.slice (some ⟨b, 0, none⟩) n c) l) : n = l.length ∧ n ≤ c ∧ W.cell? ⟨g, 0, none⟩ = some (.slice (some ⟨b, 0, none⟩) n c) := by
  obtain ⟨h1, h2, h3, ⟨b', c', hv⟩, h5⟩ := h
  simp only [Value.slice.injEq] at hv
  obtain ⟨-, rfl, rfl⟩ := hv
  exact ⟨rfl, own_cap h3, cell_of_row W g 0 _ _ _ h1⟩
theorem RamAt.byte {W : World} {base g b n c : Nat} {l : List Int} (h : RamAt W base g (.slice (some ⟨b, 0, none⟩) n c) l) (i : Nat) (hi : i < n) : W.cell? ⟨b, i, none⟩ = some (.int .u8 (l.getD i 0)) := by
  obtain ⟨rfl, -, -⟩ := h.field
  have := h.2.2.1.cellAt i (by omega)
  rw [this]
  unfold nums
  rw [List.getElem?_map, List.getElem?_eq_getElem hi, List.getD_eq_getElem?_getD, List.getElem?_eq_getElem hi]
  rfl
theorem RamAt.ne {W : World} {base g b n c : Nat} {l : List Int} (h : RamAt W base g (.slice (some ⟨b, 0, none⟩) n c) l) : g ≠ b := by
  rintro rfl
  have h1 := h.1
  rcases h.2.2.1.2 with ⟨hv, _⟩ | ⟨g', cap, cur, hv, _, hh, _⟩
  · simp at hv
  · simp only [Value.slice.injEq, Option.some.injEq, Addr.mk.injEq, and_true, true_and] at hv
    obtain ⟨rfl, -⟩ := hv
    rw [h1] at hh
    simp at hh
theorem RamAt.free {W : World} {base g b n c : Nat} {l : List Int} (h : RamAt W base g (.slice (some ⟨b, 0, none⟩) n c) l) (i : Nat) : W.frozen? ⟨b, i, none⟩ = false := by
  rcases h.2.2.1.2 with ⟨hv, _⟩ | ⟨g', cap, cur, hv, _, hh, _⟩
  · simp at hv
  · simp only [Value.slice.injEq, Option.some.injEq, Addr.mk.injEq, and_true, true_and] at hv
    obtain ⟨rfl, -⟩ := hv
    exact frozen_of_row W _ i _ _ hh
theorem RamAt.put {W : World} {base g b n c : Nat} {l : List Int} (h : RamAt W base g (.slice (some ⟨b, 0, none⟩) n c) l) (i : Nat) (y : Int) : RamAt (W.setCell ⟨b, i, none⟩ (.int .u8 y)) base g (.slice (some ⟨b, 0, none⟩) n c) (l.set i y) := by
  have hne := h.ne
  obtain ⟨hn, -, -⟩ := h.field
  subst hn
  have ho := own_put h.2.2.1 (i : Int) y
  rw [Int.toNat_natCast, List.length_set] at ho
  refine ⟨(Below.heap_setCell W ⟨b, i, none⟩ _ g hne).trans h.1, h.2.1, by rw [List.length_set]; exact ho, ⟨b, c, by rw [List.length_set]⟩, by rw [List.length_set]; exact h.2.2.2.2⟩
/-- Of block b alone. -/
theorem grown_put {W W' : World} {b : Nat} (h : W.grownBy W' (some b)) (i : Nat) (u : Value) : W.grownBy (W'.setCell ⟨b, i, none⟩ u) (some b) :=
  ⟨h.os, h.tape, h.output, by simpa [World.setCell] using h.size, fun k hk hn => (Below.heap_setCell W' ⟨b, i, none⟩ u k (fun e => hn (by rw [e]))).trans (h.block k hk hn)⟩
theorem grown_drewN {W W' : World} {r : Option Nat} (h : W.grownBy W' r) (n : Nat) : W.grownBy (W'.drewN n) r := ⟨h.os, h.tape, h.output, h.size, h.block⟩
theorem grown_refl (W : World) (r : Option Nat) : W.grownBy W r := ⟨rfl, rfl, rfl, Nat.le_refl _, fun _ _ _ => rfl⟩
/-- The lowest k bytes of x are laid from a place on. -/
def putL (l : List Int) (at_ : Nat) (x : Int) : Nat → List Int
  | 0 => l
  | k + 1 => (putL l at_ x k).set (at_ + k) (x / 2 ^ (8 * k) % 256)
theorem putL_length (l : List Int) (at_ : Nat) (x : Int) (k : Nat) : (putL l at_ x k).length = l.length := by
  induction k with
  | zero => rfl
  | succ k ih => unfold putL; rw [List.length_set, ih]
theorem RamAt.drew {W : World} {base g : Nat} {v : Value} {l : List Int} (h : RamAt W base g v l) : RamAt W.drew base g v l := h
theorem grown_drew {W W' : World} {r : Option Nat} (h : W.grownBy W' r) : W.grownBy W'.drew r := ⟨h.os, h.tape, h.output, h.size, h.block⟩
theorem splice_take {α : Type} (C : List α) (n a m : Nat) (N : List α) (hN : N.length = m) (h : a + m ≤ n) (hC : n ≤ C.length) : (C.take a ++ (N ++ C.drop (a + m))).take n = (C.take n).take a ++ (N ++ (C.take n).drop (a + m)) := by
  rw [List.take_append, List.take_take, List.length_take, Nat.min_eq_left (by omega : a ≤ C.length), List.take_append, hN, List.take_of_length_le (by omega : N.length ≤ n - a), List.take_take, Nat.min_eq_left (by omega : a ≤ n), Nat.min_eq_right (by omega : a ≤ n), List.drop_take, show n - a - m = n - (a + m) from by omega]
theorem nums_splice (l ys : List Int) (a m : Nat) : nums .u8 (l.take a ++ (ys ++ l.drop (a + m))) = (nums .u8 l).take a ++ (nums .u8 ys ++ (nums .u8 l).drop (a + m)) := by
  unfold nums
  rw [List.map_append, List.map_append, List.map_take, List.map_drop]
theorem RamAt.row {W : World} {base g b n c : Nat} {l : List Int} (h : RamAt W base g (.slice (some ⟨b, 0, none⟩) n c) l) : ∃ cur : Array Value, W.heap[b]? = some (.cells cur 5 (0, 0)) ∧ cur.size = c ∧ n ≤ c ∧ c ≤ maxLen ∧ cur.toList.take n = nums .u8 l ∧ base ≤ b := by
  obtain ⟨rfl, -, -⟩ := h.field
  rcases h.2.2.1.2 with ⟨hv, _⟩ | ⟨g', cap, cur, hv, h0, hh, h1, h2, h3, h4⟩
  · simp at hv
  · simp only [Value.slice.injEq, Option.some.injEq, Addr.mk.injEq, and_true, true_and] at hv
    obtain ⟨rfl, rfl⟩ := hv
    exact ⟨cur, hh, by omega, h1, h2, by rw [Nat.mul_one] at h4; exact h4, h0⟩
theorem RamAt.splice {W : World} {base g b n c : Nat} {l ys : List Int} (h : RamAt W base g (.slice (some ⟨b, 0, none⟩) n c) l) (cur : Array Value) (hh : W.heap[b]? = some (.cells cur 5 (0, 0))) (a : Nat) (ha : a + ys.length ≤ n) :
    RamAt (W.setRow b (cur.toList.take a ++ (nums .u8 ys ++ cur.toList.drop (a + (nums .u8 ys).length))).toArray) base g (.slice (some ⟨b, 0, none⟩) n c) (l.take a ++ (ys ++ l.drop (a + ys.length))) := by
  obtain ⟨cur', hh', h1, h2, h3, h4, h5⟩ := h.row
  obtain ⟨rfl, -, -⟩ := h.field
  rw [hh] at hh'
  simp only [Option.some.injEq, Obj.cells.injEq, and_true] at hh'
  subst hh'
  have hne := h.ne
  have hnl : (nums .u8 ys).length = ys.length := by unfold nums; rw [List.length_map]
  have hcl : cur.toList.length = c := by rw [Array.length_toList, h1]
  have hlen : (l.take a ++ (ys ++ l.drop (a + ys.length))).length = l.length := by
    rw [List.length_append, List.length_append, List.length_take, List.length_drop]; omega
  refine ⟨(setRow_other W b g _ hne).trans h.1, h.2.1, ?_, ⟨b, c, by rw [hlen]⟩, by rw [hlen]; exact h.2.2.2.2⟩
  rw [hlen]
  refine ⟨by unfold nums; rw [List.length_map, hlen, Nat.mul_one], .inr ⟨b, c, _, rfl, h5, setRow_heap W b _ _ 5 _ hh, h2, h3, ?_, ?_⟩⟩
  · rw [List.size_toArray, List.length_append, List.length_append, List.length_take, List.length_drop, hcl, hnl]; omega
  · rw [Nat.mul_one, hnl]
    show (cur.toList.take a ++ (nums .u8 ys ++ cur.toList.drop (a + ys.length))).take l.length = _
    rw [splice_take cur.toList l.length a ys.length (nums .u8 ys) hnl ha (by omega), h4, nums_splice]
theorem grown_row {W : World} {b : Nat} (cs : Array Value) : W.grownBy (W.setRow b cs) (some b) :=
  ⟨rfl, rfl, rfl, by simp [World.setRow], fun k _ hn => setRow_other W b k cs (fun e => hn (by rw [e]))⟩
/-! Numbers out of bytes, the lowest first. -/
def leN : List Int → Int
  | [] => 0
  | x :: t => x + 256 * leN t
def Bytes (l : List Int) : Prop := ∀ x ∈ l, 0 ≤ x ∧ x < 256
theorem Bytes.drop {l : List Int} (h : Bytes l) (n : Nat) : Bytes (l.drop n) := fun x hx => h x (List.mem_of_mem_drop hx)
theorem Bytes.take {l : List Int} (h : Bytes l) (n : Nat) : Bytes (l.take n) := fun x hx => h x (List.mem_of_mem_take hx)
theorem Bytes.get {l : List Int} (h : Bytes l) (i : Nat) : 0 ≤ l.getD i 0 ∧ l.getD i 0 < 256 := by
  rw [List.getD_eq_getElem?_getD]
  cases hq : l[i]? with
  | none => exact ⟨by decide, by decide⟩
  | some v => exact h v (List.mem_of_getElem? hq)
theorem leN_bounds : ∀ (l : List Int), Bytes l → 0 ≤ leN l ∧ leN l < 256 ^ l.length
  | [], _ => ⟨Int.le_refl 0, by decide⟩
  | x :: t, h => by
    have h1 := leN_bounds t (fun y hy => h y (List.mem_cons_of_mem _ hy))
    have h2 := h x List.mem_cons_self
    unfold leN
    rw [List.length_cons, Int.pow_succ]
    omega
theorem take_step (l : List Int) (a k n : Nat) (h : a + k < l.length) (hk : k < n) : (l.drop (a + k)).take (n - k) = l.getD (a + k) 0 :: (l.drop (a + (k + 1))).take (n - (k + 1)) := by
  rw [List.drop_eq_getElem_cons h, show n - k = (n - (k + 1)) + 1 from by omega, List.take_succ_cons, List.getD_eq_getElem?_getD, List.getElem?_eq_getElem h]
  rfl
theorem u32_shift_or (x b : Int) (h0 : 0 ≤ x) (h1 : x < 16777216) (b0 : 0 ≤ b) (b1 : b < 256) : Go.bits .or .u32 (x * 256) b = b + 256 * x := by
  obtain ⟨n, rfl⟩ : ∃ n : Nat, x = n := ⟨x.toNat, by omega⟩
  obtain ⟨m, rfl⟩ : ∃ m : Nat, b = m := ⟨b.toNat, by omega⟩
  have e : Go.bits .or .u32 (((n * 256 : Nat) : Int)) (m : Int) = ((n * 256 ||| m : Nat) : Int) := u32_or_nat (n * 256) m (by omega) (by omega)
  have e2 : n * 256 ||| m = n * 256 + m := by
    rw [show n * 256 = n <<< 8 from by rw [Nat.shiftLeft_eq]]
    exact (Nat.shiftLeft_add_eq_or_of_lt (by omega : m < 2 ^ 8) n).symm
  rw [show ((n : Int) * 256) = ((n * 256 : Nat) : Int) from by omega, e, e2]
  omega
theorem size_call (w : World) (base g b c : Nat) (l : List Int) (h : RamAt w base g (.slice (some ⟨b, 0, none⟩) l.length c) l) :
    Calls Try.prog 82 #[.pointer (some ⟨g, 0, none⟩)] w fun e w' => e = .returned (.int .i64 l.length) ∧ w = w' := by
  obtain ⟨-, hc, hf⟩ := h.field
  have hm := h.2.2.2.2
  clear h
  go_enter Try.func82, Try.ntmps82
  go_wp2
  go_ret
  exact ⟨rfl, rfl⟩

theorem in_call (w : World) (base g b c : Nat) (l : List Int) (at_ : Nat) (n : Int) (ha : at_ < 4294967296) (h : RamAt w base g (.slice (some ⟨b, 0, none⟩) l.length c) l) :
    Calls Try.prog 54 #[.pointer (some ⟨g, 0, none⟩), .int .u32 at_, .int .i64 n] w fun e w' => e = .returned (.bool (decide (0 ≤ n) && decide ((at_ : Int) + n ≤ l.length))) ∧ w = w' := by
  obtain ⟨-, hc, hf⟩ := h.field
  have hm := h.2.2.2.2
  clear h
  generalize l.length = len at *
  by_cases h1 : 0 ≤ n
  · by_cases h2 : n ≤ len
    · by_cases h3 : (at_ : Int) + n ≤ len
      · have e : (decide (0 ≤ n) && decide ((at_ : Int) + n ≤ len)) = true := by rw [decide_eq_true h1, decide_eq_true h3]; rfl
        rw [e]
        go_enter Try.func54, Try.ntmps54
        go_wp2
        go_ret
        exact ⟨congrArg (fun q => Ending.returned (Value.bool q)) (decide_eq_true (by omega)), rfl⟩
      · have e : (decide (0 ≤ n) && decide ((at_ : Int) + n ≤ len)) = false := by rw [decide_eq_false h3, Bool.and_false]
        rw [e]
        go_enter Try.func54, Try.ntmps54
        go_wp2
        go_ret
        exact ⟨congrArg (fun q => Ending.returned (Value.bool q)) (decide_eq_false (by omega)), rfl⟩
    · have e : (decide (0 ≤ n) && decide ((at_ : Int) + n ≤ len)) = false := by rw [decide_eq_false (show ¬ (at_ : Int) + n ≤ len by omega), Bool.and_false]
      rw [e]
      go_enter Try.func54, Try.ntmps54
      go_wp2
      go_ret
      exact ⟨rfl, rfl⟩
  · have e : (decide (0 ≤ n) && decide ((at_ : Int) + n ≤ len)) = false := by rw [decide_eq_false h1]; rfl
    rw [e]
    go_enter Try.func54, Try.ntmps54
    go_wp2
    go_ret
    exact ⟨rfl, rfl⟩
theorem in_yes (w : World) (base g b c : Nat) (l : List Int) (at_ : Nat) (n : Int) (ha : at_ < 4294967296) (h : RamAt w base g (.slice (some ⟨b, 0, none⟩) l.length c) l) (h1 : 0 ≤ n) (h2 : (at_ : Int) + n ≤ l.length) :
    Calls Try.prog 54 #[.pointer (some ⟨g, 0, none⟩), .int .u32 at_, .int .i64 n] w fun e w' => e = .returned (.bool true) ∧ w = w' := by
  have := in_call w base g b c l at_ n ha h
  rwa [decide_eq_true h1, decide_eq_true h2] at this
theorem in_no (w : World) (base g b c : Nat) (l : List Int) (at_ : Nat) (n : Int) (ha : at_ < 4294967296) (h : RamAt w base g (.slice (some ⟨b, 0, none⟩) l.length c) l) (h1 : ¬ (0 ≤ n ∧ (at_ : Int) + n ≤ l.length)) :
    Calls Try.prog 54 #[.pointer (some ⟨g, 0, none⟩), .int .u32 at_, .int .i64 n] w fun e w' => e = .returned (.bool false) ∧ w = w' := by
  have := in_call w base g b c l at_ n ha h
  rwa [← Bool.decide_and, decide_eq_false h1] at this

theorem get_bus (w : World) (base g b c : Nat) (l : List Int) (at_ : Nat) (n : Int) (ha : at_ < 4294967296) (h : RamAt w base g (.slice (some ⟨b, 0, none⟩) l.length c) l) (h1 : ¬ (0 ≤ n ∧ (at_ : Int) + n ≤ l.length ∧ n ≤ 4)) :
    Calls Try.prog 41 #[.pointer (some ⟨g, 0, none⟩), .int .u32 at_, .int .i64 n] w fun e w' => e = .returned (.tuple #[.int .u32 0, .int .i64 6]) ∧ w = w' := by
  by_cases h2 : 0 ≤ n ∧ (at_ : Int) + n ≤ l.length
  · have A := Aside0.mk (in_yes w base g b c l at_ n ha h h2.1 h2.2)
    have h4 : 4 < n := by omega
    clear h1 h2 h
    go_enter Try.func41, Try.ntmps41
    go_wp2_with (first | (go_at_call 54; ((with_reducible refine (A.out).mono ?_); rintro e w' ⟨rfl, rfl⟩)))
    go_ret2
    exact ⟨rfl, rfl⟩
  · have A := Aside0.mk (in_no w base g b c l at_ n ha h h2)
    clear h1 h2 h
    go_enter Try.func41, Try.ntmps41
    go_wp2_with (first | (go_at_call 54; ((with_reducible refine (A.out).mono ?_); rintro e w' ⟨rfl, rfl⟩)))
    go_ret2
    exact ⟨rfl, rfl⟩

theorem get_call (w : World) (base g b c : Nat) (l : List Int) (hb : Bytes l) (at_ n : Nat) (ha : at_ < 4294967296) (h : RamAt w base g (.slice (some ⟨b, 0, none⟩) l.length c) l) (h1 : at_ + n ≤ l.length) (h4 : n ≤ 4) :
    Calls Try.prog 41 #[.pointer (some ⟨g, 0, none⟩), .int .u32 at_, .int .i64 n] w fun e w' => e = .returned (.tuple #[.int .u32 (leN ((l.drop at_).take n)), .int .i64 0]) ∧ w = w' := by
  have A := Aside0.mk (in_yes w base g b c l at_ n ha h (by omega) (by omega))
  obtain ⟨-, hc, hf⟩ := h.field
  have hm := h.2.2.2.2
  have HB := Aside0.mk (fun i hi => h.byte i hi)
  clear h
  go_enter Try.func41, Try.ntmps41
  go_wp2_with (first | (go_at_call 54; ((with_reducible refine (A.out).mono ?_); rintro e w' ⟨rfl, rfl⟩)))
  go_loopw [8, 9] (fun x i wr => ∃ k : Nat, k ≤ n ∧ i = .int .i64 ((k : Int) - 1) ∧ x = .int .u32 (leN ((l.drop (at_ + k)).take (n - k))) ∧ w = wr) (fun _ i _ => ((intOf i) + 1).toNat)
  case atStart => exact ⟨n, Nat.le_refl _, rfl, by rw [Nat.sub_self, List.take_zero]; rfl, rfl⟩
  case round =>
    obtain ⟨k, hk, rfl, rfl, rfl⟩ := hrel
    by_cases hk0 : k = 0
    · subst hk0
      rw [Nat.add_zero, Nat.sub_zero]
      go_wp2
      go_ret2
      exact ⟨rfl, rfl⟩
    · obtain ⟨j, rfl⟩ : ∃ j, k = j + 1 := ⟨k - 1, by omega⟩
      rw [show (((j + 1 : Nat) : Int) - 1) = (j : Int) from by omega]
      have hcb := HB.out (at_ + j) (by omega)
      have hbt := hb.get (at_ + j)
      have e1 := take_step l at_ j n (by omega) (by omega)
      have hX := leN_bounds ((l.drop (at_ + (j + 1))).take (n - (j + 1))) ((hb.drop _).take _)
      have hX2 : leN ((l.drop (at_ + (j + 1))).take (n - (j + 1))) < 16777216 := by
        refine Int.lt_of_lt_of_le hX.2 ?_
        have : ((l.drop (at_ + (j + 1))).take (n - (j + 1))).length ≤ 3 := by rw [List.length_take]; omega
        generalize ((l.drop (at_ + (j + 1))).take (n - (j + 1))).length = q at this
        match q, this with
        | 0, _ => exact by decide
        | 1, _ => exact by decide
        | 2, _ => exact by decide
        | 3, _ => exact by decide
      have eX := congrArg leN e1
      rw [show leN (l.getD (at_ + j) 0 :: (l.drop (at_ + (j + 1))).take (n - (j + 1))) = l.getD (at_ + j) 0 + 256 * leN ((l.drop (at_ + (j + 1))).take (n - (j + 1))) from rfl] at eX
      have hX0 := hX.1
      clear hX e1
      generalize leN ((l.drop (at_ + (j + 1))).take (n - (j + 1))) = X at *
      generalize l.getD (at_ + j) 0 = y at *
      have EX := Aside0.mk eX
      clear eX
      have hor := u32_shift_or X y hX0 hX2 hbt.1 hbt.2
      go_wp2
      go_roundw
      case rel => exact ⟨j, by omega, rfl, by rw [EX.out], trivial⟩
      case measure => simp [intOf]
end Go.Proofs.Ytiogbgjeimdgmaa.RamWalk
/- The memory's functions of layer 2, walked, second part: New, Put. -/
namespace Go.Proofs.Ytiogbgjeimdgmaa.RamWalk
open Go.RowKit Go.Proofs.Ytiogbgjeimdgmaa.Aid Go.Proofs.YtiogbgjeimdgmaaW.PrintWords Go.Proofs.YtiogbgjeimdgmaaW.PrintLast Go.Proofs.YtiogbgjeimdgmaaW.PrintMore
attribute [local go_sem] max2_int min2_int max_two min_two max_three min_three max_four min_four   -- for this text's walks alone
set_option linter.unusedVariables false
set_option linter.unusedSimpArgs false

theorem info5 : (Try.prog.info? 5).map (fun i => (i.zero, i.size, i.bytes)) = some (some (.int .u8 0), 1, 1) := by kernel_rfl
theorem made_at (w : World) (k : Nat) (hk : k ≤ 16777216) : RamAt ((w.alloc (.cells (madeCells #[.int .u8 0] k) 5)).alloc (.cells #[.slice (some ⟨w.heap.size, 0, none⟩) k k] 102)) w.heap.size (w.heap.size + 1) (.slice (some ⟨w.heap.size, 0, none⟩) k k) (List.replicate k 0) := by
  have ho := own_made' w w.heap.size 5 .u8 k (Nat.le_refl _) (by omega)
  refine ⟨?_, by omega, own_alloc ho _, ⟨_, k, by rw [List.length_replicate]⟩, by rw [List.length_replicate]; exact hk⟩
  have := blk_new (w.alloc (.cells (madeCells #[.int .u8 0] k) 5)) (.cells #[.slice (some ⟨w.heap.size, 0, none⟩) k k] 102)
  simpa using this
theorem new_call (n : Int) (w : World) (hn : 0 ≤ n) (hn2 : n ≤ 16777216) :
    Calls Try.prog 14 #[.int .i64 n] w fun e w' => ∃ g b, e = .returned (.pointer (some ⟨g, 0, none⟩)) ∧ RamAt w' w.heap.size g (.slice (some ⟨b, 0, none⟩) n.toNat n.toNat) (List.replicate n.toNat 0) ∧ Below w.heap.size w w' := by
  have hmk := print_make_int (P := Try.prog) 22 5 (.int .u8 0) 1 Try.underlying22 info5 rfl (by decide) n hn (by omega)
  go_enter Try.func14, Try.ntmps14
  go_wp2
  go_ret
  refine ⟨w.heap.size + 1, w.heap.size, rfl, ?_, (below_alloc (below_alloc (Below.refl _ _) _) _)⟩
  exact made_at w n.toNat (by omega)

theorem put_call (w : World) (base g b c : Nat) (l : List Int) (at_ n : Nat) (x : Nat) (hx : x < 4294967296) (ha : at_ < 4294967296) (h : RamAt w base g (.slice (some ⟨b, 0, none⟩) l.length c) l) (h1 : at_ + n ≤ l.length) (h4 : n ≤ 4) :
    Calls Try.prog 39 #[.pointer (some ⟨g, 0, none⟩), .int .u32 at_, .int .u32 x, .int .i64 n] w fun e w' => e = .returned (.int .i64 0) ∧ RamAt w' base g (.slice (some ⟨b, 0, none⟩) l.length c) (putL l at_ x n) ∧ w.grownBy w' (some b) := by
  have A := Aside0.mk (in_yes w base g b c l at_ n ha h (by omega) (by omega))
  have hl := h.2.2.2.2
  have HR := Aside0.mk h
  clear h
  go_enter Try.func39, Try.ntmps39
  go_wp2_with (first | (go_at_call 54; ((with_reducible refine (A.out).mono ?_); rintro e w' ⟨rfl, rfl⟩)))
  go_loopw [9, 24] (fun _ i wr => ∃ k : Nat, k ≤ n ∧ i = .int .i64 k ∧ RamAt wr base g (.slice (some ⟨b, 0, none⟩) l.length c) (putL l at_ x k) ∧ w.grownBy wr (some b)) (fun _ i _ => n - (intOf i).toNat)
  case atStart => exact ⟨0, Nat.zero_le _, rfl, HR.out, grown_refl _ _⟩
  case round =>
    obtain ⟨k, hk, rfl, hr, hg⟩ := hrel
    obtain ⟨-, hc, hf⟩ := hr.field
    have hfr := hr.free (at_ + k)
    by_cases hkn : k = n
    · subst hkn
      have HP := Aside0.mk hr
      have HG := Aside0.mk hg
      clear hr hg
      go_wp2
      go_ret
      exact ⟨rfl, HP.out, HG.out⟩
    · have hcb := hr.byte (at_ + k) (by omega)
      go_wp2
      go_region
      all_goals (go_wp2; go_roundw)
      case rel => exact ⟨k + 1, by omega, rfl, (hr.put (at_ + k) _).drew, grown_drew (grown_put hg _ _)⟩
      case measure => simp [intOf]; omega
theorem put_bus (w : World) (base g b c : Nat) (l : List Int) (at_ : Nat) (n x : Int) (ha : at_ < 4294967296) (h : RamAt w base g (.slice (some ⟨b, 0, none⟩) l.length c) l) (h1 : ¬ (0 ≤ n ∧ (at_ : Int) + n ≤ l.length ∧ n ≤ 4)) :
    Calls Try.prog 39 #[.pointer (some ⟨g, 0, none⟩), .int .u32 at_, .int .u32 x, .int .i64 n] w fun e w' => e = .returned (.int .i64 6) ∧ w = w' := by
  by_cases h2 : 0 ≤ n ∧ (at_ : Int) + n ≤ l.length
  · have A := Aside0.mk (in_yes w base g b c l at_ n ha h h2.1 h2.2)
    have h4 : 4 < n := by omega
    clear h1 h2 h
    go_enter Try.func39, Try.ntmps39
    go_wp2_with (first | (go_at_call 54; ((with_reducible refine (A.out).mono ?_); rintro e w' ⟨rfl, rfl⟩)))
    go_ret
    exact ⟨rfl, rfl⟩
  · have A := Aside0.mk (in_no w base g b c l at_ n ha h h2)
    clear h1 h2 h
    go_enter Try.func39, Try.ntmps39
    go_wp2_with (first | (go_at_call 54; ((with_reducible refine (A.out).mono ?_); rintro e w' ⟨rfl, rfl⟩)))
    go_ret
    exact ⟨rfl, rfl⟩

theorem own_shape {w : World} {base : Nat} {e : TypeId} {s n b : Nat} {v : Value} {xs : List Value} (h : w.ownsRow base e s v n xs) (hb : v.ownBlock = some b) : ∃ c, v = .slice (some ⟨b, 0, none⟩) n c := by
  rcases h.2 with ⟨rfl, _⟩ | ⟨g, cap, cur, rfl, _⟩
  · simp [Value.ownBlock] at hb
  · simp only [Value.ownBlock, Option.some.injEq] at hb
    subst hb
    exact ⟨cap, rfl⟩

theorem equalIn_nil (w : World) (d : Nat) (ad : Addr) (l c : Nat) : (Op.equalIn (d + 1) 22 (.slice (some ad) l c) (.slice none 0 0)).run Try.prog w = .ok false w := by
  simp [Op.equalIn, run_underlying Try.underlying22]
theorem equal_nil (w : World) (ad : Addr) (l c : Nat) : (Op.equal 22 (.slice (some ad) l c) (.slice none 0 0)).run Try.prog w = .ok false w := equalIn_nil w 9999 ad l c
theorem eq_nil_run (w : World) (ad : Addr) (n c : Nat) : (binOp .eql 22 (.slice (some ad) n c) (.slice none 0 0)).run Try.prog w = .ok (.bool false) w := by
  simp [binOp, equal_nil w ad n c]
theorem clone_call (w : World) (ad : Addr) (c : Nat) (l : List Int) (h : ReadsInt w .u8 (some ad) l.length l) (hl : l.length ≤ 16777216) :
    Calls Try.prog 64 #[.slice (some ad) l.length c] w fun e w' => ∃ b c', e = .returned (.slice (some ⟨b, 0, none⟩) l.length c') ∧ w'.ownsRow w.heap.size 5 1 (.slice (some ⟨b, 0, none⟩) l.length c') l.length (nums .u8 l) ∧ Below w.heap.size w w' := by
  have HR := Aside0.mk h
  have HL := Aside0.mk hl
  have HO := Aside0.mk (World.ownsRow_lit (base := w.heap.size) (e := 5) (size := 1) w #[] 0 (Nat.le_refl _) (Nat.zero_le _) rfl)
  have heq := eq_nil_run
  clear h hl
  go_enter Try.func64, Try.ntmps64
  go_wp2_with (first | (at_builtin; go_loud (refine print_append_row (w0 := w) w.heap.size rfl (.tmp 5) (.tmp 6) 22 5 .u8 1 rfl Try.underlying22 info5 (by decide) _ [] l (some ad) l.length c rfl rfl (HO.out) (HR.out.allocS _) (below_alloc (Below.refl _ _) _) (by simp) (by have := HL.out; simp; omega) ?_; intro v1 w1 ho hb hg hat)))
  go_ret
  obtain ⟨b, hb'⟩ : ∃ b, v1.ownBlock = some b := by
    rcases hat with hat | ⟨b, hat, _⟩
    · exact ⟨w.heap.size, hat⟩
    · exact ⟨b, hat⟩
  rw [List.nil_append] at ho
  obtain ⟨c', rfl⟩ := own_shape ho hb'
  exact ⟨b, c', rfl, ho, hb⟩

theorem size5 : (Try.prog.info? 5).map (·.size) = some 1 := by kernel_rfl
theorem load_call (w : World) (base g b c : Nat) (l ys : List Int) (at_ : Nat) (A : Option Addr) (cap : Nat) (ha : at_ < 4294967296) (h : RamAt w base g (.slice (some ⟨b, 0, none⟩) l.length c) l) (hy : ReadsInt w .u8 A ys.length ys) (h1 : at_ + ys.length ≤ l.length) :
    Calls Try.prog 16 #[.pointer (some ⟨g, 0, none⟩), .int .u32 at_, .slice A ys.length cap] w fun e w' => e = .returned (.int .i64 0) ∧ RamAt w' base g (.slice (some ⟨b, 0, none⟩) l.length c) (l.take at_ ++ (ys ++ l.drop (at_ + ys.length))) ∧ w.grownBy w' (some b) := by
  have A' := Aside0.mk (in_yes w base g b c l at_ ys.length ha h (by omega) (by omega))
  obtain ⟨-, hc, hf⟩ := h.field
  have hm := h.2.2.2.2
  by_cases h0 : ys.length = 0
  · have hcp : ∀ (d : Option Addr) (dL dC : Nat), (Builtin.copy_ #[22, 22] 3 #[.slice d dL dC, .slice A ys.length cap]).run Try.prog w = .ok (goInt 0) w := fun d dL dC =>
      run_copy_none w 22 22 3 5 d A dL dC ys.length cap Try.underlying22 size5 (by rw [h0]; exact Nat.zero_min _)
    have e0 : l.take at_ ++ (ys ++ l.drop (at_ + ys.length)) = l := by rw [List.eq_nil_of_length_eq_zero h0, List.nil_append, List.length_nil, Nat.add_zero, List.take_append_drop]
    rw [e0]
    have HR := Aside0.mk h
    clear h e0 h0
    go_enter Try.func16, Try.ntmps16
    go_wp2_with (first | (go_at_call 54; ((with_reducible refine (A'.out).mono ?_); rintro e w' ⟨rfl, rfl⟩)))
    all_goals (go_ret; refine ⟨rfl, ?_, grown_refl _ _⟩; first | exact HR.out | (rw [← (show c = at_ from by assumption)]; exact HR.out))
  · obtain ⟨ad, rfl, hcell⟩ := hy.2.2 (by omega)
    obtain ⟨cur, hh, s1, s2, s3, s4, s5⟩ := h.row
    have hnl : (nums .u8 ys).length = ys.length := by unfold nums; rw [List.length_map]
    have hcp : (Builtin.copy_ #[22, 22] 3 #[.slice (some ⟨b, at_, none⟩) (l.length - at_) (c - at_), .slice (some ad) ys.length cap]).run Try.prog w = .ok (goInt (nums .u8 ys).length) (w.setRow b (cur.toList.take at_ ++ (nums .u8 ys ++ cur.toList.drop (at_ + (nums .u8 ys).length))).toArray) := by
      rw [← List.append_assoc]
      refine run_copy_row Try.prog w 22 22 3 5 b at_ _ _ ad _ _ cur 5 (nums .u8 ys) Try.underlying22 size5 hh ?_ ?_ ?_ ?_
      · rw [hnl]; exact (Nat.min_eq_left (by omega)).symm
      · intro j u hu
        have hj : j < ys.length := by
          have := (List.getElem?_eq_some_iff.1 hu).1
          omega
        rw [hcell j hj]
        unfold nums at hu
        rw [List.getElem?_map, List.getElem?_eq_getElem hj] at hu
        rw [List.getD_eq_getElem?_getD, List.getElem?_eq_getElem hj]
        exact hu
      · rw [hnl]; omega
      · intro u hu
        unfold nums at hu
        obtain ⟨x, _, rfl⟩ := List.mem_map.1 hu
        rfl
    have hne : ¬ c = at_ := by omega
    have HS := Aside0.mk (h.splice (ys := ys) cur hh at_ (by omega))
    have hg := grown_row (W := w) (b := b) (cur.toList.take at_ ++ (nums .u8 ys ++ cur.toList.drop (at_ + (nums .u8 ys).length))).toArray
    generalize (w.setRow b (cur.toList.take at_ ++ (nums .u8 ys ++ cur.toList.drop (at_ + (nums .u8 ys).length))).toArray) = w1 at *
    have HG := Aside0.mk hg
    clear hg h hh s1 s2 s3 s4 s5
    go_enter Try.func16, Try.ntmps16
    go_wp2_with (first | (go_at_call 54; ((with_reducible refine (A'.out).mono ?_); rintro e w' ⟨rfl, rfl⟩)))
    go_ret
    exact ⟨rfl, HS.out, HG.out⟩
end Go.Proofs.Ytiogbgjeimdgmaa.RamWalk
/- The memory's functions of layer 2, walked, third part: Bytes, Copy. -/
namespace Go.Proofs.Ytiogbgjeimdgmaa.RamWalk
open Go.RowKit Go.Proofs.Ytiogbgjeimdgmaa.Aid Go.Proofs.YtiogbgjeimdgmaaW.PrintWords Go.Proofs.YtiogbgjeimdgmaaW.PrintLast Go.Proofs.YtiogbgjeimdgmaaW.PrintMore
attribute [local go_sem] max2_int min2_int max_two min_two max_three min_three max_four min_four   -- for this text's walks alone
set_option linter.unusedVariables false
set_option linter.unusedSimpArgs false

theorem clone_n (w : World) (ad : Addr) (n c : Nat) (l : List Int) (hn : l.length = n) (h : ReadsInt w .u8 (some ad) n l) (hl : n ≤ 16777216) :
    Calls Try.prog 64 #[.slice (some ad) n c] w fun e w' => ∃ b c', e = .returned (.slice (some ⟨b, 0, none⟩) n c') ∧ w'.ownsRow w.heap.size 5 1 (.slice (some ⟨b, 0, none⟩) n c') n (nums .u8 l) ∧ Below w.heap.size w w' := by
  subst hn
  exact clone_call w ad c l h hl
theorem RamAt.reads {W : World} {base g b n c : Nat} {l : List Int} (h : RamAt W base g (.slice (some ⟨b, 0, none⟩) n c) l) : ReadsInt W .u8 (some ⟨b, 0, none⟩) n l := by
  obtain ⟨rfl, -, -⟩ := h.field
  exact own_reads' h.2.2.1
theorem add_plain (b o i : Nat) : ((⟨b, o, none⟩ : Addr).add i) = ⟨b, o + i, none⟩ := by
  unfold Addr.add
  by_cases hi : i = 0
  · simp [hi]
  · simp [hi]
theorem reads_part {W : World} {b n : Nat} {l : List Int} (h : ReadsInt W .u8 (some ⟨b, 0, none⟩) n l) (a m : Nat) (hm : a + m ≤ n) : ReadsInt W .u8 (some ⟨b, a, none⟩) m ((l.drop a).take m) := by
  have hl := h.1
  refine ⟨by rw [List.length_take, List.length_drop]; omega, by have := h.2.1; omega, fun h0 => ⟨_, rfl, fun j hj => ?_⟩⟩
  obtain ⟨ad, he, hc⟩ := h.2.2 (by omega)
  simp only [Option.some.injEq] at he
  subst he
  have := hc (a + j) (by omega)
  rw [add_plain, Nat.zero_add] at this
  rw [add_plain, this]
  rw [List.getD_eq_getElem?_getD, List.getD_eq_getElem?_getD, List.getElem?_take, if_pos hj, List.getElem?_drop]

theorem bytes_call (w : World) (base g b c : Nat) (l : List Int) (at_ n : Nat) (ha : at_ < 4294967296) (h : RamAt w base g (.slice (some ⟨b, 0, none⟩) l.length c) l) (h1 : at_ + n ≤ l.length) :
    Calls Try.prog 37 #[.pointer (some ⟨g, 0, none⟩), .int .u32 at_, .int .i64 n] w fun e w' => ∃ b' c', e = .returned (.tuple #[.slice (some ⟨b', 0, none⟩) n c', .int .i64 0]) ∧ w'.ownsRow w.heap.size 5 1 (.slice (some ⟨b', 0, none⟩) n c') n (nums .u8 ((l.drop at_).take n)) ∧ Below w.heap.size w w' := by
  have A := Aside0.mk (in_yes w base g b c l at_ n ha h (by omega) (by omega))
  obtain ⟨-, hc, hf⟩ := h.field
  have hm := h.2.2.2.2
  have hX : ((l.drop at_).take n).length = n := by rw [List.length_take, List.length_drop]; omega
  have hr := reads_part h.reads at_ n h1
  by_cases h0 : n = 0
  · have D := Aside0.mk (fun (ad : Addr) (cc : Nat) => clone_n w ad n cc ((l.drop at_).take n) hX ⟨hX, by omega, fun q => absurd q (by omega)⟩ (by omega))
    clear h0 hr hX h
    go_enter Try.func37, Try.ntmps37
    go_wp2_with (first | (go_at_call 54; ((with_reducible refine (A.out).mono ?_); rintro e w' ⟨rfl, rfl⟩)) | (go_at_call 64; ((with_reducible refine (D.out _ _).mono ?_); rintro e w' ⟨b', c', rfl, ho, hb⟩)))
    all_goals (go_ret2; exact ⟨_, _, rfl, by assumption, by assumption⟩)
  · have D := Aside0.mk (fun (cc : Nat) => clone_n w ⟨b, at_, none⟩ n cc ((l.drop at_).take n) hX hr (by omega))
    have hne : ¬ c = at_ := by omega
    clear hr hX h
    go_enter Try.func37, Try.ntmps37
    go_wp2_with (first | (go_at_call 54; ((with_reducible refine (A.out).mono ?_); rintro e w' ⟨rfl, rfl⟩)) | (go_at_call 64; ((with_reducible refine (D.out _).mono ?_); rintro e w' ⟨b', c', rfl, ho, hb⟩)))
    all_goals (go_ret2; exact ⟨_, _, rfl, by assumption, by assumption⟩)

end Go.Proofs.Ytiogbgjeimdgmaa.RamWalk
/- The memory's functions of layer 2, walked, fourth part: what the laws ask of them; alive. -/
namespace Go.Proofs.Ytiogbgjeimdgmaa.RamWalk
open Go.RowKit Go.Proofs.Ytiogbgjeimdgmaa.Aid Go.Proofs.YtiogbgjeimdgmaaW.PrintWords Go.Proofs.YtiogbgjeimdgmaaW.PrintLast Go.Proofs.YtiogbgjeimdgmaaW.PrintMore
attribute [local go_sem] max2_int min2_int max_two min_two max_three min_three max_four min_four   -- for this text's walks alone
set_option linter.unusedVariables false
set_option linter.unusedSimpArgs false

theorem new_nat (n : Nat) (w : World) (hn : n ≤ 16777216) :
    Calls Try.prog 14 #[.int .i64 n] w fun e w' => ∃ g b, e = .returned (.pointer (some ⟨g, 0, none⟩)) ∧ RamAt w' w.heap.size g (.slice (some ⟨b, 0, none⟩) n n) (List.replicate n 0) ∧ Below w.heap.size w w' := by
  have := new_call (n : Int) w (by omega) (by omega)
  rwa [Int.toNat_natCast] at this
/-- The list's length as a number of its own. -/
theorem get_n (w : World) (base g b m c : Nat) (l : List Int) (hb : Bytes l) (at_ n : Nat) (ha : at_ < 4294967296) (h : RamAt w base g (.slice (some ⟨b, 0, none⟩) m c) l) (h1 : at_ + n ≤ m) (h4 : n ≤ 4) (v : Int) (hv : leN ((l.drop at_).take n) = v) :
    Calls Try.prog 41 #[.pointer (some ⟨g, 0, none⟩), .int .u32 at_, .int .i64 n] w fun e w' => e = .returned (.tuple #[.int .u32 v, .int .i64 0]) ∧ w = w' := by
  obtain ⟨rfl, -, -⟩ := h.field
  subst hv
  exact get_call w base g b c l hb at_ n ha h h1 h4
theorem put_n (w : World) (base g b m c : Nat) (l l' : List Int) (at_ n x : Nat) (hx : x < 4294967296) (ha : at_ < 4294967296) (h : RamAt w base g (.slice (some ⟨b, 0, none⟩) m c) l) (h1 : at_ + n ≤ m) (h4 : n ≤ 4) (hl : putL l at_ x n = l') :
    Calls Try.prog 39 #[.pointer (some ⟨g, 0, none⟩), .int .u32 at_, .int .u32 x, .int .i64 n] w fun e w' => e = .returned (.int .i64 0) ∧ RamAt w' base g (.slice (some ⟨b, 0, none⟩) m c) l' ∧ w.grownBy w' (some b) := by
  obtain ⟨rfl, -, -⟩ := h.field
  subst hl
  exact put_call w base g b c l at_ n x hx ha h h1 h4
theorem bytes_n (w : World) (base g b m c : Nat) (l l' : List Int) (at_ n : Nat) (ha : at_ < 4294967296) (h : RamAt w base g (.slice (some ⟨b, 0, none⟩) m c) l) (h1 : at_ + n ≤ m) (hl : (l.drop at_).take n = l') :
    Calls Try.prog 37 #[.pointer (some ⟨g, 0, none⟩), .int .u32 at_, .int .i64 n] w fun e w' => ∃ b' c', e = .returned (.tuple #[.slice (some ⟨b', 0, none⟩) n c', .int .i64 0]) ∧ w'.ownsRow w.heap.size 5 1 (.slice (some ⟨b', 0, none⟩) n c') n (nums .u8 l') ∧ Below w.heap.size w w' := by
  obtain ⟨rfl, -, -⟩ := h.field
  subst hl
  exact bytes_call w base g b c l at_ n ha h h1
theorem own_cell {W : World} {base b n c i : Nat} {l : List Int} (h : W.ownsRow base 5 1 (.slice (some ⟨b, 0, none⟩) n c) n (nums .u8 l)) (hi : i < n) : W.cell? ⟨b, i, none⟩ = some (.int .u8 (l.getD i 0)) := by
  have hl := h.1
  unfold nums at hl
  rw [List.length_map] at hl
  have := h.cellAt i (by omega)
  rw [this]
  unfold nums
  have hi' : i < l.length := by omega
  rw [List.getElem?_map, List.getElem?_eq_getElem hi', List.getD_eq_getElem?_getD, List.getElem?_eq_getElem hi']
  rfl
theorem RamAt.baseb {W : World} {base g b n c : Nat} {l : List Int} (h : RamAt W base g (.slice (some ⟨b, 0, none⟩) n c) l) : base ≤ b := by
  obtain ⟨_, _, _, _, _, _, h5⟩ := h.row
  exact h5

theorem size_n (w : World) (base g b m c : Nat) (l : List Int) (h : RamAt w base g (.slice (some ⟨b, 0, none⟩) m c) l) :
    Calls Try.prog 82 #[.pointer (some ⟨g, 0, none⟩)] w fun e w' => e = .returned (.int .i64 m) ∧ w = w' := by
  obtain ⟨rfl, -, -⟩ := h.field
  exact size_call w base g b c l h
theorem put_bus_i (w : World) (base g b m c : Nat) (l : List Int) (a n x : Int) (ha0 : 0 ≤ a) (ha : a < 4294967296) (h : RamAt w base g (.slice (some ⟨b, 0, none⟩) m c) l) (h1 : ¬ (0 ≤ n ∧ a + n ≤ m ∧ n ≤ 4)) :
    Calls Try.prog 39 #[.pointer (some ⟨g, 0, none⟩), .int .u32 a, .int .u32 x, .int .i64 n] w fun e w' => e = .returned (.int .i64 6) ∧ w = w' := by
  obtain ⟨rfl, -, -⟩ := h.field
  obtain ⟨k, rfl⟩ : ∃ k : Nat, a = k := ⟨a.toNat, by omega⟩
  exact put_bus w base g b c l k n x (by omega) h h1
theorem get_bus_i (w : World) (base g b m c : Nat) (l : List Int) (a n : Int) (ha0 : 0 ≤ a) (ha : a < 4294967296) (h : RamAt w base g (.slice (some ⟨b, 0, none⟩) m c) l) (h1 : ¬ (0 ≤ n ∧ a + n ≤ m ∧ n ≤ 4)) :
    Calls Try.prog 41 #[.pointer (some ⟨g, 0, none⟩), .int .u32 a, .int .i64 n] w fun e w' => e = .returned (.tuple #[.int .u32 0, .int .i64 6]) ∧ w = w' := by
  obtain ⟨rfl, -, -⟩ := h.field
  obtain ⟨k, rfl⟩ : ∃ k : Nat, a = k := ⟨a.toNat, by omega⟩
  exact get_bus w base g b c l k n (by omega) h h1
theorem get_i (w : World) (base g b m c : Nat) (l : List Int) (hb : Bytes l) (a n : Int) (ha0 : 0 ≤ a) (ha : a < 4294967296) (h : RamAt w base g (.slice (some ⟨b, 0, none⟩) m c) l) (h0 : 0 ≤ n) (h1 : a + n ≤ m) (h4 : n ≤ 4) (v : Int) (hv : leN ((l.drop a.toNat).take n.toNat) = v) :
    Calls Try.prog 41 #[.pointer (some ⟨g, 0, none⟩), .int .u32 a, .int .i64 n] w fun e w' => e = .returned (.tuple #[.int .u32 v, .int .i64 0]) ∧ w = w' := by
  obtain ⟨k, rfl⟩ : ∃ k : Nat, a = k := ⟨a.toNat, by omega⟩
  obtain ⟨j, rfl⟩ : ∃ k : Nat, n = k := ⟨n.toNat, by omega⟩
  exact get_n w base g b m c l hb k j (by omega) h (by omega) (by omega) v hv
theorem put_i (w : World) (base g b m c : Nat) (l : List Int) (a n x : Int) (hx0 : 0 ≤ x) (hx : x < 4294967296) (ha0 : 0 ≤ a) (ha : a < 4294967296) (h : RamAt w base g (.slice (some ⟨b, 0, none⟩) m c) l) (h0 : 0 ≤ n) (h1 : a + n ≤ m) (h4 : n ≤ 4) :
    Calls Try.prog 39 #[.pointer (some ⟨g, 0, none⟩), .int .u32 a, .int .u32 x, .int .i64 n] w fun e w' => e = .returned (.int .i64 0) ∧ RamAt w' base g (.slice (some ⟨b, 0, none⟩) m c) (putL l a.toNat x n.toNat) ∧ w.grownBy w' (some b) := by
  obtain ⟨k, rfl⟩ : ∃ k : Nat, a = k := ⟨a.toNat, by omega⟩
  obtain ⟨j, rfl⟩ : ∃ k : Nat, n = k := ⟨n.toNat, by omega⟩
  obtain ⟨y, rfl⟩ : ∃ k : Nat, x = k := ⟨x.toNat, by omega⟩
  exact put_n w base g b m c l _ k j y (by omega) (by omega) h (by omega) (by omega) rfl
theorem zeros_bytes (n : Nat) : Bytes (List.replicate n 0) := fun x hx => by
  rw [List.eq_of_mem_replicate hx]; exact ⟨by decide, by decide⟩
end Go.Proofs.Ytiogbgjeimdgmaa.RamWalk
/- What was put is got, in plain numbers; a memory that bytes are laid into. -/
namespace Go.Proofs.Ytiogbgjeimdgmaa.RamWalk
open Go.RowKit Go.Proofs.Ytiogbgjeimdgmaa.Aid Go.Proofs.YtiogbgjeimdgmaaW.PrintWords Go.Proofs.YtiogbgjeimdgmaaW.PrintLast Go.Proofs.YtiogbgjeimdgmaaW.PrintMore
theorem putL_bytes (l : List Int) (hl : Bytes l) (a : Nat) (x : Int) : ∀ k, Bytes (putL l a x k)
  | 0 => hl
  | k + 1 => fun y hy => by
    have := List.mem_or_eq_of_mem_set hy
    rcases this with h | rfl
    · exact putL_bytes l hl a x k y h
    · exact ⟨Int.emod_nonneg _ (by decide), Int.emod_lt_of_pos _ (by decide)⟩
theorem load_n (w : World) (base g b m c : Nat) (l ys : List Int) (A : Option Addr) (cap : Nat) (h : RamAt w base g (.slice (some ⟨b, 0, none⟩) m c) l) (hy : ReadsInt w .u8 A m ys) :
    Calls Try.prog 16 #[.pointer (some ⟨g, 0, none⟩), .int .u32 0, .slice A m cap] w fun e w' => e = .returned (.int .i64 0) ∧ RamAt w' base g (.slice (some ⟨b, 0, none⟩) m c) ys ∧ w.grownBy w' (some b) := by
  obtain ⟨hm, -, -⟩ := h.field
  have hl := hy.1
  subst hl
  rw [hm] at h ⊢
  rw [hm] at hy
  have := load_call w base g b c l ys 0 A cap (by decide) h (by rw [hm]; exact hy) (by omega)
  rw [hm, List.take_zero, List.nil_append, Nat.zero_add, List.drop_eq_nil_of_le (Nat.le_refl _), List.append_nil] at this
  exact this
end Go.Proofs.Ytiogbgjeimdgmaa.RamWalk
