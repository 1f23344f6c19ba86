/- What was put is got, in plain numbers; a memory that bytes are laid into. -/
import Derived.Test.YtiogbgjeimdgmaaRamD
namespace Go.Proofs.Ytiogbgjeimdgmaa.RamWalk
open Go.RowKit Go.Proofs.Ytiogbgjeimdgmaa.Aid Go.Proofs.YtiogbgjeimdgmaaW.PrintWords Go.Proofs.YtiogbgjeimdgmaaW.PrintLast Go.Proofs.YtiogbgjeimdgmaaW.PrintMore
theorem getD_set (l : List Int) (i j : Nat) (v : Int) (hi : i < l.length) : (l.set i v).getD j 0 = if i = j then v else l.getD j 0 := by
  rw [List.getD_eq_getElem?_getD, List.getD_eq_getElem?_getD, List.getElem?_set]
  by_cases h : i = j
  · subst h; rw [if_pos rfl, if_pos rfl, if_pos hi]; rfl
  · rw [if_neg h, if_neg h]
/-- What was put is got. -/
theorem get_put4 (l : List Int) (a : Nat) (x : Int) (h0 : 0 ≤ x) (h1 : x < 4294967296) (h : a + 4 ≤ l.length) : leN (((putL l a x 4).drop a).take 4) = x := by
  have hl : ∀ k, (putL l a x k).length = l.length := putL_length l a x
  have g : ∀ j, j < 4 → (putL l a x 4).getD (a + j) 0 = x / 2 ^ (8 * j) % 256 := by
    intro j hj
    have e4 : putL l a x 4 = (putL l a x 3).set (a + 3) (x / 2 ^ (8 * 3) % 256) := rfl
    have e3 : putL l a x 3 = (putL l a x 2).set (a + 2) (x / 2 ^ (8 * 2) % 256) := rfl
    have e2 : putL l a x 2 = (putL l a x 1).set (a + 1) (x / 2 ^ (8 * 1) % 256) := rfl
    have e1 : putL l a x 1 = l.set (a + 0) (x / 2 ^ (8 * 0) % 256) := rfl
    rw [e4, getD_set _ _ _ _ (by rw [hl]; omega), e3, getD_set _ _ _ _ (by rw [hl]; omega), e2, getD_set _ _ _ _ (by rw [hl]; omega), e1, getD_set _ _ _ _ (by omega)]
    match j, hj with
    | 0, _ => rw [if_neg (by omega), if_neg (by omega), if_neg (by omega), if_pos rfl]
    | 1, _ => rw [if_neg (by omega), if_neg (by omega), if_pos rfl]
    | 2, _ => rw [if_neg (by omega), if_pos rfl]
    | 3, _ => rw [if_pos rfl]
  have t : ∀ k, k < 4 → ((putL l a x 4).drop (a + k)).take (4 - k) = (putL l a x 4).getD (a + k) 0 :: ((putL l a x 4).drop (a + (k + 1))).take (4 - (k + 1)) := fun k hk => take_step _ a k 4 (by rw [hl]; omega) hk
  have t0 := t 0 (by decide)
  have t1 := t 1 (by decide)
  have t2 := t 2 (by decide)
  have t3 := t 3 (by decide)
  rw [g 0 (by decide)] at t0
  rw [g 1 (by decide)] at t1
  rw [g 2 (by decide)] at t2
  rw [g 3 (by decide)] at t3
  generalize putL l a x 4 = q at *
  rw [show a = a + 0 from rfl, show (4 : Nat) = 4 - 0 from rfl, t0, t1, t2, t3]
  rw [show 4 - (3 + 1) = 0 from rfl, List.take_zero]
  show x / 2 ^ (8 * 0) % 256 + 256 * (x / 2 ^ (8 * 1) % 256 + 256 * (x / 2 ^ (8 * 2) % 256 + 256 * (x / 2 ^ (8 * 3) % 256 + 256 * 0))) = x
  rw [show ((2 : Int) ^ (8 * 0)) = 1 from rfl, show ((2 : Int) ^ (8 * 1)) = 256 from rfl, show ((2 : Int) ^ (8 * 2)) = 65536 from rfl, show ((2 : Int) ^ (8 * 3)) = 16777216 from rfl]
  omega
theorem putL_bytes (l : List Int) (hl : Bytes l) (a : Nat) (x : Int) : ∀ k, Bytes (putL l a x k)
  | 0 => hl
  | k + 1 => fun y hy => by
    have := List.mem_or_eq_of_mem_set hy
    rcases this with h | rfl
    · exact putL_bytes l hl a x k y h
    · exact ⟨Int.emod_nonneg _ (by decide), Int.emod_lt_of_pos _ (by decide)⟩
theorem load_n (w : World) (base g b m c : Nat) (l ys : List Int) (A : Option Addr) (cap : Nat) (h : RamAt w base g (.slice (some ⟨b, 0, none⟩) m c) l) (hy : ReadsInt w .u8 A m ys) :
    Calls Try.prog 16 #[.pointer (some ⟨g, 0, none⟩), .int .u32 0, .slice A m cap] w fun e w' => e = .returned (.int .i64 0) ∧ RamAt w' base g (.slice (some ⟨b, 0, none⟩) m c) ys ∧ w.grownBy w' (some b) := by
  obtain ⟨hm, -, -⟩ := h.field
  have hl := hy.1
  subst hl
  rw [hm] at h ⊢
  rw [hm] at hy
  have := load_call w base g b c l ys 0 A cap (by decide) h (by rw [hm]; exact hy) (by omega)
  rw [hm, List.take_zero, List.nil_append, Nat.zero_add, List.drop_eq_nil_of_le (Nat.le_refl _), List.append_nil] at this
  exact this
theorem RamAt.blt {W : World} {base g b n c : Nat} {l : List Int} (h : RamAt W base g (.slice (some ⟨b, 0, none⟩) n c) l) : b < W.heap.size := by
  obtain ⟨cur, hh, _⟩ := h.row
  exact (Array.getElem?_eq_some_iff.1 hh).1
end Go.Proofs.Ytiogbgjeimdgmaa.RamWalk
