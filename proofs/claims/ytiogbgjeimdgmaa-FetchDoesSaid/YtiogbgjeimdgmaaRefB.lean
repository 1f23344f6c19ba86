/- The document's numbers of layers 2, 3 and 5 (camshaftref02, 03, 05), walked: bits, entries, faults; the memory. -/
import Derived.Test.YtiogbgjeimdgmaaRefA
namespace Go.Proofs.Ytiogbgjeimdgmaa.RefWalk
open Go.RowKit Go.Proofs.Ytiogbgjeimdgmaa.Aid Go.Proofs.YtiogbgjeimdgmaaW.PrintWords Go.Proofs.YtiogbgjeimdgmaaW.PrintLast Go.Proofs.YtiogbgjeimdgmaaW.PrintMore
open Go.Proofs.Ytiogbgjeimdgmaa.MmuWalk (Chg R32 protE isE wrE placeE mayE Flt fltV noF flt infoF leN_snoc szI)
open Go.Proofs.Ytiogbgjeimdgmaa.RamWalk (Bytes leN leN_bounds putL putL_length grown_put grown_drewN grown_refl grown_drew grown_row splice_take nums_splice info5)
attribute [local go_sem] max2_int min2_int max_two min_two max_three min_three max_four min_four   -- for this text's walks alone
set_option linter.unusedVariables false
set_option linter.unusedSimpArgs false
def RRamAt (W : World) (base g : Nat) (v : Value) (l : List Int) : Prop :=
  W.heap[g]? = some (.cells #[v] 51 (0, 0)) ∧ base ≤ g ∧ W.ownsRow base 5 1 v l.length (nums .u8 l) ∧ (∃ b c, v = .slice (some ⟨b, 0, none⟩) l.length c) ∧ l.length ≤ 16777216
theorem RRamAt.drewN {W : World} {base g : Nat} {v : Value} {l : List Int} (h : RRamAt W base g v l) (n : Nat) : RRamAt (W.drewN n) base g v l := h
theorem RRamAt.lower {W : World} {base base' g : Nat} {v : Value} {l : List Int} (h : RRamAt W base g v l) (hb : base' ≤ base) : RRamAt W base' g v l :=
  ⟨h.1, Nat.le_trans hb h.2.1, own_less h.2.2.1 hb, h.2.2.2⟩
theorem RRamAt.lt {W : World} {base g : Nat} {v : Value} {l : List Int} (h : RRamAt W base g v l) : g < W.heap.size := (Array.getElem?_eq_some_iff.1 h.1).1
theorem RRamAt.kept {W W' : World} {base g : Nat} {v : Value} {l : List Int} {row : Option Nat} (h : RRamAt W base g v l) (k : W.grownBy W' row) (h1 : some g ≠ row) (h2 : v.ownBlock ≠ row) : RRamAt W' base g v l :=
  ⟨(k.block g h.lt h1).trans h.1, h.2.1, h.2.2.1.kept k (.inr h2), h.2.2.2⟩
theorem RRamAt.then {W W' : World} {base g : Nat} {v : Value} {l : List Int} (h : RRamAt W base g v l) (k : Below W.heap.size W W') : RRamAt W' base g v l := by
  refine ⟨(k.block g h.lt).trans h.1, h.2.1, ?_, h.2.2.2⟩
  refine h.2.2.1.kept (row := none) ⟨k.os, k.tape, k.output, k.size, fun i hi _ => k.block i hi⟩ ?_
  obtain ⟨b, c, rfl⟩ := h.2.2.2.1
  exact .inr (by simp [Value.ownBlock])
theorem RRamAt.field {W : World} {base g b c n : Nat} {l : List Int} (h : RRamAt W base g (.slice (some ⟨b, 0, none⟩) n c) l) : n = l.length ∧ n ≤ c ∧ W.cell? ⟨g, 0, none⟩ = some (.slice (some ⟨b, 0, none⟩) n c) := by
  obtain ⟨h1, h2, h3, ⟨b', c', hv⟩, h5⟩ := h
  simp only [Value.slice.injEq] at hv
  obtain ⟨-, rfl, rfl⟩ := hv
  exact ⟨rfl, own_cap h3, cell_of_row W g 0 _ _ _ h1⟩
theorem RRamAt.byte {W : World} {base g b n c : Nat} {l : List Int} (h : RRamAt W base g (.slice (some ⟨b, 0, none⟩) n c) l) (i : Nat) (hi : i < n) : W.cell? ⟨b, i, none⟩ = some (.int .u8 (l.getD i 0)) := by
  obtain ⟨rfl, -, -⟩ := h.field
  have := h.2.2.1.cellAt i (by omega)
  rw [this]
  unfold nums
  rw [List.getElem?_map, List.getElem?_eq_getElem hi, List.getD_eq_getElem?_getD, List.getElem?_eq_getElem hi]
  rfl
theorem RRamAt.ne {W : World} {base g b n c : Nat} {l : List Int} (h : RRamAt W base g (.slice (some ⟨b, 0, none⟩) n c) l) : g ≠ b := by
  rintro rfl
  have h1 := h.1
  rcases h.2.2.1.2 with ⟨hv, _⟩ | ⟨g', cap, cur, hv, _, hh, _⟩
  · simp at hv
  · simp only [Value.slice.injEq, Option.some.injEq, Addr.mk.injEq, and_true, true_and] at hv
    obtain ⟨rfl, -⟩ := hv
    rw [h1] at hh
    simp at hh
theorem RRamAt.free {W : World} {base g b n c : Nat} {l : List Int} (h : RRamAt W base g (.slice (some ⟨b, 0, none⟩) n c) l) (i : Nat) : W.frozen? ⟨b, i, none⟩ = false := by
  rcases h.2.2.1.2 with ⟨hv, _⟩ | ⟨g', cap, cur, hv, _, hh, _⟩
  · simp at hv
  · simp only [Value.slice.injEq, Option.some.injEq, Addr.mk.injEq, and_true, true_and] at hv
    obtain ⟨rfl, -⟩ := hv
    exact frozen_of_row W _ i _ _ hh
theorem RRamAt.put {W : World} {base g b n c : Nat} {l : List Int} (h : RRamAt W base g (.slice (some ⟨b, 0, none⟩) n c) l) (i : Nat) (y : Int) : RRamAt (W.setCell ⟨b, i, none⟩ (.int .u8 y)) base g (.slice (some ⟨b, 0, none⟩) n c) (l.set i y) := by
  have hne := h.ne
  obtain ⟨hn, -, -⟩ := h.field
  subst hn
  have ho := own_put h.2.2.1 (i : Int) y
  rw [Int.toNat_natCast, List.length_set] at ho
  refine ⟨(Below.heap_setCell W ⟨b, i, none⟩ _ g hne).trans h.1, h.2.1, by rw [List.length_set]; exact ho, ⟨b, c, by rw [List.length_set]⟩, by rw [List.length_set]; exact h.2.2.2.2⟩
theorem RRamAt.drew {W : World} {base g : Nat} {v : Value} {l : List Int} (h : RRamAt W base g v l) : RRamAt W.drew base g v l := h
theorem RRamAt.row {W : World} {base g b n c : Nat} {l : List Int} (h : RRamAt W base g (.slice (some ⟨b, 0, none⟩) n c) l) : ∃ cur : Array Value, W.heap[b]? = some (.cells cur 5 (0, 0)) ∧ cur.size = c ∧ n ≤ c ∧ c ≤ maxLen ∧ cur.toList.take n = nums .u8 l ∧ base ≤ b := by
  obtain ⟨rfl, -, -⟩ := h.field
  rcases h.2.2.1.2 with ⟨hv, _⟩ | ⟨g', cap, cur, hv, h0, hh, h1, h2, h3, h4⟩
  · simp at hv
  · simp only [Value.slice.injEq, Option.some.injEq, Addr.mk.injEq, and_true, true_and] at hv
    obtain ⟨rfl, rfl⟩ := hv
    exact ⟨cur, hh, by omega, h1, h2, by rw [Nat.mul_one] at h4; exact h4, h0⟩
theorem RRamAt.splice {W : World} {base g b n c : Nat} {l ys : List Int} (h : RRamAt W base g (.slice (some ⟨b, 0, none⟩) n c) l) (cur : Array Value) (hh : W.heap[b]? = some (.cells cur 5 (0, 0))) (a : Nat) (ha : a + ys.length ≤ n) :
    RRamAt (W.setRow b (cur.toList.take a ++ (nums .u8 ys ++ cur.toList.drop (a + (nums .u8 ys).length))).toArray) base g (.slice (some ⟨b, 0, none⟩) n c) (l.take a ++ (ys ++ l.drop (a + ys.length))) := by
  obtain ⟨cur', hh', h1, h2, h3, h4, h5⟩ := h.row
  obtain ⟨rfl, -, -⟩ := h.field
  rw [hh] at hh'
  simp only [Option.some.injEq, Obj.cells.injEq, and_true] at hh'
  subst hh'
  have hne := h.ne
  have hnl : (nums .u8 ys).length = ys.length := by unfold nums; rw [List.length_map]
  have hcl : cur.toList.length = c := by rw [Array.length_toList, h1]
  have hlen : (l.take a ++ (ys ++ l.drop (a + ys.length))).length = l.length := by
    rw [List.length_append, List.length_append, List.length_take, List.length_drop]; omega
  refine ⟨(setRow_other W b g _ hne).trans h.1, h.2.1, ?_, ⟨b, c, by rw [hlen]⟩, by rw [hlen]; exact h.2.2.2.2⟩
  rw [hlen]
  refine ⟨by unfold nums; rw [List.length_map, hlen, Nat.mul_one], .inr ⟨b, c, _, rfl, h5, setRow_heap W b _ _ 5 _ hh, h2, h3, ?_, ?_⟩⟩
  · rw [List.size_toArray, List.length_append, List.length_append, List.length_take, List.length_drop, hcl, hnl]; omega
  · rw [Nat.mul_one, hnl]
    show (cur.toList.take a ++ (nums .u8 ys ++ cur.toList.drop (a + ys.length))).take l.length = _
    rw [splice_take cur.toList l.length a ys.length (nums .u8 ys) hnl ha (by omega), h4, nums_splice]
theorem pow_step (x : Int) (i : Nat) : x / 2 ^ i / 2 = x / 2 ^ (i + 1) := by
  rw [Int.ediv_ediv_of_nonneg (Int.le_of_lt (Int.pow_pos (by decide))), Int.pow_succ]
theorem bit_call (w : World) (x : Int) (n : Nat) (hn : n ≤ 31) (hx : R32 x) : Calls Try.prog 61 #[.int .u32 x, .int .i64 n] w fun e w' => e = .returned (.bool (decide (x / 2 ^ n % 2 = 1))) ∧ w = w' := by
  have HX := Aside0.mk hx
  clear hx
  go_enter Try.func61, Try.ntmps61
  go_wp2_with fail
  go_loopw [0, 5] (fun a i wr => ∃ k : Nat, k ≤ n ∧ i = .int .i64 k ∧ a = .int .u32 (x / 2 ^ k) ∧ w = wr) (fun _ i _ => n - (intOf i).toNat)
  case atStart => exact ⟨0, Nat.zero_le _, rfl, by rw [Int.pow_zero, Int.ediv_one], rfl⟩
  case round =>
    obtain ⟨k, hk, rfl, rfl, rfl⟩ := hrel
    have h0 : 0 ≤ x / 2 ^ k := Int.ediv_nonneg HX.out.1 (Int.le_of_lt (Int.pow_pos (by decide)))
    by_cases hkn : k = n
    · subst hkn
      have e : Int.tmod (x / 2 ^ k) 2 = x / 2 ^ k % 2 := Int.tmod_eq_emod_of_nonneg h0
      obtain ⟨y, hy⟩ : ∃ y, x / 2 ^ k = y := ⟨_, rfl⟩
      rw [hy] at h0 e ⊢
      have HY := Aside0.mk hy
      clear hy
      go_wp2
      go_ret
      refine ⟨?_, rfl⟩
      rw [HY.out]
      by_cases h : y % 2 = 1 <;> simp [h]
    · have hk' : k < n := by omega
      have e := pow_step x k
      have HK := Aside0.mk hk'
      obtain ⟨z, hz⟩ : ∃ z, x / 2 ^ (k + 1) = z := ⟨_, rfl⟩
      have hz0 : 0 ≤ z := hz ▸ Int.ediv_nonneg HX.out.1 (Int.le_of_lt (Int.pow_pos (by decide)))
      have hz1 : z < 4294967296 := by have h1 := Int.ediv_le_self (b := 2 ^ (k + 1)) HX.out.1; have h2 := HX.out.2; rw [hz] at h1; omega
      have hz2 : z % 4294967296 = z := by omega
      rw [hz] at e
      have HZ := Aside0.mk hz
      have e2 : Int.tdiv (x / 2 ^ k) 2 = z := by rw [Int.tdiv_eq_ediv_of_nonneg h0, e]
      generalize x / 2 ^ k = y at *
      clear hz hkn
      go_wp2
      go_roundw
      case rel => exact ⟨k + 1, HK.out, by go_num, by rw [HZ.out], trivial⟩
      case measure => have := HK.out; simp [intOf]; omega
theorem bit26 (w : World) (x : Int) (hx : R32 x) : Calls Try.prog 61 #[.int .u32 x, .int .i64 26] w fun e w' => e = .returned (.bool (wrE x)) ∧ w = w' := bit_call w x 26 (by decide) hx
theorem bit31 (w : World) (x : Int) (hx : R32 x) : Calls Try.prog 61 #[.int .u32 x, .int .i64 31] w fun e w' => e = .returned (.bool (isE x)) ∧ w = w' := bit_call w x 31 (by decide) hx
theorem bit30 (w : World) (x : Int) (hx : R32 x) : Calls Try.prog 61 #[.int .u32 x, .int .i64 30] w fun e w' => e = .returned (.bool (decide (x / 1073741824 % 2 = 1))) ∧ w = w' := bit_call w x 30 (by decide) hx
theorem bit27 (w : World) (x : Int) (hx : R32 x) : Calls Try.prog 61 #[.int .u32 x, .int .i64 27] w fun e w' => e = .returned (.bool (decide (x / 134217728 % 2 = 1))) ∧ w = w' := bit_call w x 27 (by decide) hx
theorem bit28 (w : World) (x : Int) (hx : R32 x) : Calls Try.prog 61 #[.int .u32 x, .int .i64 28] w fun e w' => e = .returned (.bool (decide (x / 268435456 % 2 = 1))) ∧ w = w' := bit_call w x 28 (by decide) hx
theorem rprot_call (w : World) (x : Int) (hx : R32 x) : Calls Try.prog 77 #[.int .u32 x] w fun e w' => e = .returned (.int .i64 (protE x)) ∧ w = w' := by
  have A := Aside0.mk (bit27 w x hx)
  have B := Aside0.mk (bit28 w x hx)
  unfold protE
  by_cases h1 : x / 134217728 % 2 = 1 <;> by_cases h2 : x / 268435456 % 2 = 1
  all_goals
    rw [show decide (x / 134217728 % 2 = 1) = _ from by first | exact decide_eq_true h1 | exact decide_eq_false h1] at A
    rw [show decide (x / 268435456 % 2 = 1) = _ from by first | exact decide_eq_true h2 | exact decide_eq_false h2] at B
  · rw [show x / 134217728 % 4 = 3 from by omega]
    clear h1 h2 hx
    go_enter Try.func77, Try.ntmps77
    go_wp2_with (first | (go_at_call 61; (with_reducible refine (A.out).mono ?_); rintro e w1 ⟨rfl, rfl⟩) | (go_at_call 61; (with_reducible refine (B.out).mono ?_); rintro e w1 ⟨rfl, rfl⟩))
    go_ret
    exact ⟨rfl, rfl⟩
  · rw [show x / 134217728 % 4 = 1 from by omega]
    clear h1 h2 hx
    go_enter Try.func77, Try.ntmps77
    go_wp2_with (first | (go_at_call 61; (with_reducible refine (A.out).mono ?_); rintro e w1 ⟨rfl, rfl⟩) | (go_at_call 61; (with_reducible refine (B.out).mono ?_); rintro e w1 ⟨rfl, rfl⟩))
    go_ret
    exact ⟨rfl, rfl⟩
  · rw [show x / 134217728 % 4 = 2 from by omega]
    clear h1 h2 hx
    go_enter Try.func77, Try.ntmps77
    go_wp2_with (first | (go_at_call 61; (with_reducible refine (A.out).mono ?_); rintro e w1 ⟨rfl, rfl⟩) | (go_at_call 61; (with_reducible refine (B.out).mono ?_); rintro e w1 ⟨rfl, rfl⟩))
    go_ret
    exact ⟨rfl, rfl⟩
  · rw [show x / 134217728 % 4 = 0 from by omega]
    clear h1 h2 hx
    go_enter Try.func77, Try.ntmps77
    go_wp2_with (first | (go_at_call 61; (with_reducible refine (A.out).mono ?_); rintro e w1 ⟨rfl, rfl⟩) | (go_at_call 61; (with_reducible refine (B.out).mono ?_); rintro e w1 ⟨rfl, rfl⟩))
    go_ret
    exact ⟨rfl, rfl⟩
theorem rmay_call (w : World) (x : Int) (user wr : Bool) (hx : R32 x) : Calls Try.prog 60 #[.int .u32 x, .bool user, .bool wr] w fun e w' => e = .returned (.bool (mayE x user wr)) ∧ w = w' := by
  have P := Aside0.mk (rprot_call w x hx)
  unfold mayE
  have hp : 0 ≤ protE x ∧ protE x < 4 := by unfold protE; omega
  generalize protE x = p at *
  have : p = 0 ∨ p = 1 ∨ p = 2 ∨ p = 3 := by omega
  clear hp
  rcases this with rfl | rfl | rfl | rfl <;> cases user <;> cases wr
  all_goals
    go_enter Try.func60, Try.ntmps60
    go_wp2_with (first | (go_at_call 77; (with_reducible refine (P.out).mono ?_); rintro e w1 ⟨rfl, rfl⟩))
    go_ret
    exact ⟨rfl, rfl⟩
theorem rplace_call (w : World) (x va : Int) (hx : R32 x) (hv : R32 va) : Calls Try.prog 63 #[.int .u32 x, .int .u32 va] w fun e w' => e = .returned (.int .u32 (placeE x va)) ∧ w = w' := by
  have h1 := hx.1
  have h2 := hv.1
  have e1 : Int.tmod x 2097152 = x % 2097152 := Int.tmod_eq_emod_of_nonneg h1
  have e2 : Int.tmod va 512 = va % 512 := Int.tmod_eq_emod_of_nonneg h2
  have e3 : x % 2097152 * 512 % 4294967296 = x % 2097152 * 512 := by omega
  have e4 : (x % 2097152 * 512 + va % 512) % 4294967296 = x % 2097152 * 512 + va % 512 := by omega
  go_enter Try.func63, Try.ntmps63
  go_wp2
  go_ret
  exact ⟨rfl, rfl⟩
theorem rfault_call (w : World) (va : Int) (wr : Bool) (k i : Int) (hi : i = 0 ∨ i = 1) : Calls Try.prog 59 #[.int .i64 k, .int .u32 va, .int .u32 i, .bool wr] w fun e w' => e = .returned (fltV (flt k va i wr)) ∧ Below w.heap.size w w' := by
  rcases hi with rfl | rfl <;> cases wr
  all_goals
    go_enter Try.func59, Try.ntmps59
    go_wp2_with fail
    refine bodyPost_ret (results_cell_row rfl _ _ (w.heap.size) 47 _ (0, 0) _ rfl (heap_alloc_new _ _) Try.underlying47 rfl infoF) rfl ⟨rfl, below_alloc (Below.refl _ _) _⟩
end Go.Proofs.Ytiogbgjeimdgmaa.RefWalk
