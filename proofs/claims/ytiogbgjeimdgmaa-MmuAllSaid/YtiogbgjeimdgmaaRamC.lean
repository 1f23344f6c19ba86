/- The memory's functions of layer 2, walked, third part: Bytes, Copy. -/
import Derived.Test.YtiogbgjeimdgmaaRamB
namespace Go.Proofs.Ytiogbgjeimdgmaa.RamWalk
open Go.RowKit Go.Proofs.Ytiogbgjeimdgmaa.Aid Go.Proofs.YtiogbgjeimdgmaaW.PrintWords Go.Proofs.YtiogbgjeimdgmaaW.PrintLast Go.Proofs.YtiogbgjeimdgmaaW.PrintMore
attribute [local go_sem] max2_int min2_int max_two min_two max_three min_three max_four min_four   -- for this text's walks alone
set_option linter.unusedVariables false
set_option linter.unusedSimpArgs false

theorem clone_n (w : World) (ad : Addr) (n c : Nat) (l : List Int) (hn : l.length = n) (h : ReadsInt w .u8 (some ad) n l) (hl : n ≤ 16777216) :
    Calls Try.prog 64 #[.slice (some ad) n c] w fun e w' => ∃ b c', e = .returned (.slice (some ⟨b, 0, none⟩) n c') ∧ w'.ownsRow w.heap.size 5 1 (.slice (some ⟨b, 0, none⟩) n c') n (nums .u8 l) ∧ Below w.heap.size w w' := by
  subst hn
  exact clone_call w ad c l h hl
theorem RamAt.reads {W : World} {base g b n c : Nat} {l : List Int} (h : RamAt W base g (.slice (some ⟨b, 0, none⟩) n c) l) : ReadsInt W .u8 (some ⟨b, 0, none⟩) n l := by
  obtain ⟨rfl, -, -⟩ := h.field
  exact own_reads' h.2.2.1
theorem add_plain (b o i : Nat) : ((⟨b, o, none⟩ : Addr).add i) = ⟨b, o + i, none⟩ := by
  unfold Addr.add
  by_cases hi : i = 0
  · simp [hi]
  · simp [hi]
theorem reads_part {W : World} {b n : Nat} {l : List Int} (h : ReadsInt W .u8 (some ⟨b, 0, none⟩) n l) (a m : Nat) (hm : a + m ≤ n) : ReadsInt W .u8 (some ⟨b, a, none⟩) m ((l.drop a).take m) := by
  have hl := h.1
  refine ⟨by rw [List.length_take, List.length_drop]; omega, by have := h.2.1; omega, fun h0 => ⟨_, rfl, fun j hj => ?_⟩⟩
  obtain ⟨ad, he, hc⟩ := h.2.2 (by omega)
  simp only [Option.some.injEq] at he
  subst he
  have := hc (a + j) (by omega)
  rw [add_plain, Nat.zero_add] at this
  rw [add_plain, this]
  rw [List.getD_eq_getElem?_getD, List.getD_eq_getElem?_getD, List.getElem?_take, if_pos hj, List.getElem?_drop]

theorem bytes_bus (w : World) (base g b c : Nat) (l : List Int) (at_ : Nat) (n : Int) (ha : at_ < 4294967296) (h : RamAt w base g (.slice (some ⟨b, 0, none⟩) l.length c) l) (h1 : ¬ (0 ≤ n ∧ (at_ : Int) + n ≤ l.length)) :
    Calls Try.prog 37 #[.pointer (some ⟨g, 0, none⟩), .int .u32 at_, .int .i64 n] w fun e w' => e = .returned (.tuple #[.slice none 0 0, .int .i64 6]) ∧ w = w' := by
  have A := Aside0.mk (in_no w base g b c l at_ n ha h h1)
  clear h1 h
  go_enter Try.func37, Try.ntmps37
  go_wp2_with (first | (go_at_call 54; ((with_reducible refine (A.out).mono ?_); rintro e w' ⟨rfl, rfl⟩)))
  go_ret2
  exact ⟨rfl, rfl⟩

theorem bytes_call (w : World) (base g b c : Nat) (l : List Int) (at_ n : Nat) (ha : at_ < 4294967296) (h : RamAt w base g (.slice (some ⟨b, 0, none⟩) l.length c) l) (h1 : at_ + n ≤ l.length) :
    Calls Try.prog 37 #[.pointer (some ⟨g, 0, none⟩), .int .u32 at_, .int .i64 n] w fun e w' => ∃ b' c', e = .returned (.tuple #[.slice (some ⟨b', 0, none⟩) n c', .int .i64 0]) ∧ w'.ownsRow w.heap.size 5 1 (.slice (some ⟨b', 0, none⟩) n c') n (nums .u8 ((l.drop at_).take n)) ∧ Below w.heap.size w w' := by
  have A := Aside0.mk (in_yes w base g b c l at_ n ha h (by omega) (by omega))
  obtain ⟨-, hc, hf⟩ := h.field
  have hm := h.2.2.2.2
  have hX : ((l.drop at_).take n).length = n := by rw [List.length_take, List.length_drop]; omega
  have hr := reads_part h.reads at_ n h1
  by_cases h0 : n = 0
  · have D := Aside0.mk (fun (ad : Addr) (cc : Nat) => clone_n w ad n cc ((l.drop at_).take n) hX ⟨hX, by omega, fun q => absurd q (by omega)⟩ (by omega))
    clear h0 hr hX h
    go_enter Try.func37, Try.ntmps37
    go_wp2_with (first | (go_at_call 54; ((with_reducible refine (A.out).mono ?_); rintro e w' ⟨rfl, rfl⟩)) | (go_at_call 64; ((with_reducible refine (D.out _ _).mono ?_); rintro e w' ⟨b', c', rfl, ho, hb⟩)))
    all_goals (go_ret2; exact ⟨_, _, rfl, by assumption, by assumption⟩)
  · have D := Aside0.mk (fun (cc : Nat) => clone_n w ⟨b, at_, none⟩ n cc ((l.drop at_).take n) hX hr (by omega))
    have hne : ¬ c = at_ := by omega
    clear hr hX h
    go_enter Try.func37, Try.ntmps37
    go_wp2_with (first | (go_at_call 54; ((with_reducible refine (A.out).mono ?_); rintro e w' ⟨rfl, rfl⟩)) | (go_at_call 64; ((with_reducible refine (D.out _).mono ?_); rintro e w' ⟨b', c', rfl, ho, hb⟩)))
    all_goals (go_ret2; exact ⟨_, _, rfl, by assumption, by assumption⟩)

end Go.Proofs.Ytiogbgjeimdgmaa.RamWalk
