/- The memory's functions of layer 2, walked, fourth part: what the laws ask of them; alive. -/
import Derived.Test.YtiogbgjeimdgmaaRamC
namespace Go.Proofs.Ytiogbgjeimdgmaa.RamWalk
open Go.RowKit Go.Proofs.Ytiogbgjeimdgmaa.Aid Go.Proofs.YtiogbgjeimdgmaaW.PrintWords Go.Proofs.YtiogbgjeimdgmaaW.PrintLast Go.Proofs.YtiogbgjeimdgmaaW.PrintMore
attribute [local go_sem] max2_int min2_int max_two min_two max_three min_three max_four min_four   -- for this text's walks alone
set_option linter.unusedVariables false
set_option linter.unusedSimpArgs false

theorem new_nat (n : Nat) (w : World) (hn : n ≤ 16777216) :
    Calls Try.prog 14 #[.int .i64 n] w fun e w' => ∃ g b, e = .returned (.pointer (some ⟨g, 0, none⟩)) ∧ RamAt w' w.heap.size g (.slice (some ⟨b, 0, none⟩) n n) (List.replicate n 0) ∧ Below w.heap.size w w' := by
  have := new_call (n : Int) w (by omega) (by omega)
  rwa [Int.toNat_natCast] at this
/-- The list's length as a number of its own. -/
theorem get_n (w : World) (base g b m c : Nat) (l : List Int) (hb : Bytes l) (at_ n : Nat) (ha : at_ < 4294967296) (h : RamAt w base g (.slice (some ⟨b, 0, none⟩) m c) l) (h1 : at_ + n ≤ m) (h4 : n ≤ 4) (v : Int) (hv : leN ((l.drop at_).take n) = v) :
    Calls Try.prog 41 #[.pointer (some ⟨g, 0, none⟩), .int .u32 at_, .int .i64 n] w fun e w' => e = .returned (.tuple #[.int .u32 v, .int .i64 0]) ∧ w = w' := by
  obtain ⟨rfl, -, -⟩ := h.field
  subst hv
  exact get_call w base g b c l hb at_ n ha h h1 h4
theorem put_n (w : World) (base g b m c : Nat) (l l' : List Int) (at_ n x : Nat) (hx : x < 4294967296) (ha : at_ < 4294967296) (h : RamAt w base g (.slice (some ⟨b, 0, none⟩) m c) l) (h1 : at_ + n ≤ m) (h4 : n ≤ 4) (hl : putL l at_ x n = l') :
    Calls Try.prog 39 #[.pointer (some ⟨g, 0, none⟩), .int .u32 at_, .int .u32 x, .int .i64 n] w fun e w' => e = .returned (.int .i64 0) ∧ RamAt w' base g (.slice (some ⟨b, 0, none⟩) m c) l' ∧ w.grownBy w' (some b) := by
  obtain ⟨rfl, -, -⟩ := h.field
  subst hl
  exact put_call w base g b c l at_ n x hx ha h h1 h4
theorem bytes_n (w : World) (base g b m c : Nat) (l l' : List Int) (at_ n : Nat) (ha : at_ < 4294967296) (h : RamAt w base g (.slice (some ⟨b, 0, none⟩) m c) l) (h1 : at_ + n ≤ m) (hl : (l.drop at_).take n = l') :
    Calls Try.prog 37 #[.pointer (some ⟨g, 0, none⟩), .int .u32 at_, .int .i64 n] w fun e w' => ∃ b' c', e = .returned (.tuple #[.slice (some ⟨b', 0, none⟩) n c', .int .i64 0]) ∧ w'.ownsRow w.heap.size 5 1 (.slice (some ⟨b', 0, none⟩) n c') n (nums .u8 l') ∧ Below w.heap.size w w' := by
  obtain ⟨rfl, -, -⟩ := h.field
  subst hl
  exact bytes_call w base g b c l at_ n ha h h1
theorem own_cell {W : World} {base b n c i : Nat} {l : List Int} (h : W.ownsRow base 5 1 (.slice (some ⟨b, 0, none⟩) n c) n (nums .u8 l)) (hi : i < n) : W.cell? ⟨b, i, none⟩ = some (.int .u8 (l.getD i 0)) := by
  have hl := h.1
  unfold nums at hl
  rw [List.length_map] at hl
  have := h.cellAt i (by omega)
  rw [this]
  unfold nums
  have hi' : i < l.length := by omega
  rw [List.getElem?_map, List.getElem?_eq_getElem hi', List.getD_eq_getElem?_getD, List.getElem?_eq_getElem hi']
  rfl
theorem RamAt.baseb {W : World} {base g b n c : Nat} {l : List Int} (h : RamAt W base g (.slice (some ⟨b, 0, none⟩) n c) l) : base ≤ b := by
  obtain ⟨_, _, _, _, _, _, h5⟩ := h.row
  exact h5

theorem new_neg (n : Int) (w : World) (hn : n < 0) :
    Calls Try.prog 14 #[.int .i64 n] w fun e w' => ∃ g b, e = .returned (.pointer (some ⟨g, 0, none⟩)) ∧ RamAt w' w.heap.size g (.slice (some ⟨b, 0, none⟩) 0 0) (List.replicate 0 0) ∧ Below w.heap.size w w' := by
  have hmk := print_make_int (P := Try.prog) 22 5 (.int .u8 0) 1 Try.underlying22 info5 rfl (by decide) 0 (by decide) (by decide)
  simp only [Int.toNat_zero] at hmk
  go_enter Try.func14, Try.ntmps14
  go_wp2
  go_ret
  exact ⟨w.heap.size + 1, w.heap.size, rfl, made_at w 0 (by decide), (below_alloc (below_alloc (Below.refl _ _) _) _)⟩
theorem new_big (n : Int) (w : World) (hn : 16777216 < n) :
    Calls Try.prog 14 #[.int .i64 n] w fun e w' => ∃ g b, e = .returned (.pointer (some ⟨g, 0, none⟩)) ∧ RamAt w' w.heap.size g (.slice (some ⟨b, 0, none⟩) 16777216 16777216) (List.replicate 16777216 0) ∧ Below w.heap.size w w' := by
  have hmk := print_make_int (P := Try.prog) 22 5 (.int .u8 0) 1 Try.underlying22 info5 rfl (by decide) 16777216 (by decide) (by decide)
  rw [show ((16777216 : Int)).toNat = 16777216 from rfl] at hmk
  obtain ⟨K, hK⟩ : ∃ K : Nat, K = 16777216 := ⟨_, rfl⟩
  have HK := Aside0.mk hK
  rw [← hK] at hmk ⊢
  clear hK
  go_enter Try.func14, Try.ntmps14
  go_wp2
  go_ret
  exact ⟨w.heap.size + 1, w.heap.size, rfl, made_at w K (by have := HK.out; omega), (below_alloc (below_alloc (Below.refl _ _) _) _)⟩
theorem size_n (w : World) (base g b m c : Nat) (l : List Int) (h : RamAt w base g (.slice (some ⟨b, 0, none⟩) m c) l) :
    Calls Try.prog 82 #[.pointer (some ⟨g, 0, none⟩)] w fun e w' => e = .returned (.int .i64 m) ∧ w = w' := by
  obtain ⟨rfl, -, -⟩ := h.field
  exact size_call w base g b c l h
theorem put_bus_i (w : World) (base g b m c : Nat) (l : List Int) (a n x : Int) (ha0 : 0 ≤ a) (ha : a < 4294967296) (h : RamAt w base g (.slice (some ⟨b, 0, none⟩) m c) l) (h1 : ¬ (0 ≤ n ∧ a + n ≤ m ∧ n ≤ 4)) :
    Calls Try.prog 39 #[.pointer (some ⟨g, 0, none⟩), .int .u32 a, .int .u32 x, .int .i64 n] w fun e w' => e = .returned (.int .i64 6) ∧ w = w' := by
  obtain ⟨rfl, -, -⟩ := h.field
  obtain ⟨k, rfl⟩ : ∃ k : Nat, a = k := ⟨a.toNat, by omega⟩
  exact put_bus w base g b c l k n x (by omega) h h1
theorem get_bus_i (w : World) (base g b m c : Nat) (l : List Int) (a n : Int) (ha0 : 0 ≤ a) (ha : a < 4294967296) (h : RamAt w base g (.slice (some ⟨b, 0, none⟩) m c) l) (h1 : ¬ (0 ≤ n ∧ a + n ≤ m ∧ n ≤ 4)) :
    Calls Try.prog 41 #[.pointer (some ⟨g, 0, none⟩), .int .u32 a, .int .i64 n] w fun e w' => e = .returned (.tuple #[.int .u32 0, .int .i64 6]) ∧ w = w' := by
  obtain ⟨rfl, -, -⟩ := h.field
  obtain ⟨k, rfl⟩ : ∃ k : Nat, a = k := ⟨a.toNat, by omega⟩
  exact get_bus w base g b c l k n (by omega) h h1
theorem get_i (w : World) (base g b m c : Nat) (l : List Int) (hb : Bytes l) (a n : Int) (ha0 : 0 ≤ a) (ha : a < 4294967296) (h : RamAt w base g (.slice (some ⟨b, 0, none⟩) m c) l) (h0 : 0 ≤ n) (h1 : a + n ≤ m) (h4 : n ≤ 4) (v : Int) (hv : leN ((l.drop a.toNat).take n.toNat) = v) :
    Calls Try.prog 41 #[.pointer (some ⟨g, 0, none⟩), .int .u32 a, .int .i64 n] w fun e w' => e = .returned (.tuple #[.int .u32 v, .int .i64 0]) ∧ w = w' := by
  obtain ⟨k, rfl⟩ : ∃ k : Nat, a = k := ⟨a.toNat, by omega⟩
  obtain ⟨j, rfl⟩ : ∃ k : Nat, n = k := ⟨n.toNat, by omega⟩
  exact get_n w base g b m c l hb k j (by omega) h (by omega) (by omega) v hv
theorem put_i (w : World) (base g b m c : Nat) (l : List Int) (a n x : Int) (hx0 : 0 ≤ x) (hx : x < 4294967296) (ha0 : 0 ≤ a) (ha : a < 4294967296) (h : RamAt w base g (.slice (some ⟨b, 0, none⟩) m c) l) (h0 : 0 ≤ n) (h1 : a + n ≤ m) (h4 : n ≤ 4) :
    Calls Try.prog 39 #[.pointer (some ⟨g, 0, none⟩), .int .u32 a, .int .u32 x, .int .i64 n] w fun e w' => e = .returned (.int .i64 0) ∧ RamAt w' base g (.slice (some ⟨b, 0, none⟩) m c) (putL l a.toNat x n.toNat) ∧ w.grownBy w' (some b) := by
  obtain ⟨k, rfl⟩ : ∃ k : Nat, a = k := ⟨a.toNat, by omega⟩
  obtain ⟨j, rfl⟩ : ∃ k : Nat, n = k := ⟨n.toNat, by omega⟩
  obtain ⟨y, rfl⟩ : ∃ k : Nat, x = k := ⟨x.toNat, by omega⟩
  exact put_n w base g b m c l _ k j y (by omega) (by omega) h (by omega) (by omega) rfl
theorem zeros_bytes (n : Nat) : Bytes (List.replicate n 0) := fun x hx => by
  rw [List.eq_of_mem_replicate hx]; exact ⟨by decide, by decide⟩
theorem leN_zeros : ∀ n, leN (List.replicate n 0) = 0
  | 0 => rfl
  | n + 1 => by rw [List.replicate_succ]; unfold leN; rw [leN_zeros n]; rfl
theorem zeros_num (n a m : Nat) : leN (((List.replicate n (0 : Int)).drop a).take m) = 0 := by
  rw [List.drop_replicate, List.take_replicate, leN_zeros]

end Go.Proofs.Ytiogbgjeimdgmaa.RamWalk
