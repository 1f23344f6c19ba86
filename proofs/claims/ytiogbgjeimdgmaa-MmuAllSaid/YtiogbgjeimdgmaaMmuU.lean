/- The reference's Number; Peek and Load of one byte. -/
import Derived.Test.YtiogbgjeimdgmaaMmuT
namespace Go.Proofs.Ytiogbgjeimdgmaa.MmuWalk
open Go.RowKit Go.Proofs.Ytiogbgjeimdgmaa.Aid Go.Proofs.YtiogbgjeimdgmaaW.PrintWords Go.Proofs.YtiogbgjeimdgmaaW.PrintLast Go.Proofs.YtiogbgjeimdgmaaW.PrintMore
open Go.Proofs.Ytiogbgjeimdgmaa.RamWalk (RamAt Bytes leN leN_bounds)
open Go.Proofs.Ytiogbgjeimdgmaa.TlbWalk (TlbAt Kept2 putP dropP posP posP_page entP nil2 own_some own_val own_then)
attribute [local go_sem] max2_int min2_int max_two min_two max_three min_three max_four min_four   -- for this text's walks alone
set_option linter.unusedVariables false
set_option linter.unusedSimpArgs false
theorem number_call (w : World) (A : Option Addr) (c : Nat) (xs : List Int) (hr : ReadsInt w .u8 A xs.length xs) (hb : Bytes xs) (h4 : xs.length ≤ 4) :
    Calls Try.prog 36 #[.slice A xs.length c] w fun e w' => e = .returned (.int .u32 (leN xs)) ∧ w = w' := by
  have HR := Aside0.mk hr
  have HB := Aside0.mk hb
  clear hr hb
  go_enter Try.func36, Try.ntmps36
  go_wp2
  go_loopw [3, 4] (fun x i wr => ∃ k : Nat, k ≤ xs.length ∧ i = .int .i64 ((k : Int) - 1) ∧ x = .int .u32 (leN (xs.drop k)) ∧ w = wr) (fun _ i _ => ((intOf i) + 1).toNat)
  case atStart => exact ⟨xs.length, Nat.le_refl _, by go_num, by rw [List.drop_length]; rfl, rfl⟩
  case round =>
    obtain ⟨k, hk, rfl, rfl, rfl⟩ := hrel
    rcases k with _ | j
    · go_wp2
      go_ret
      exact ⟨rfl, rfl⟩
    · obtain ⟨ad, rfl, hc⟩ := HR.out.2.2 (by omega)
      have cy := hc j (by omega)
      have hy := HB.out.get j
      have hX := leN_bounds (xs.drop (j + 1)) (HB.out.drop _)
      have hX2 : leN (xs.drop (j + 1)) < 16777216 := by
        have h1 : (xs.drop (j + 1)).length ≤ 3 := by rw [List.length_drop]; omega
        have h2 := hX.2
        have : (xs.drop (j + 1)).length = 0 ∨ (xs.drop (j + 1)).length = 1 ∨ (xs.drop (j + 1)).length = 2 ∨ (xs.drop (j + 1)).length = 3 := by omega
        rcases this with e | e | e | e <;> rw [e] at h2 <;> omega
      have eX : leN (xs.drop j) = xs.getD j 0 + 256 * leN (xs.drop (j + 1)) := by
        rw [List.drop_eq_getElem_cons (by omega : j < xs.length), List.getD_eq_getElem?_getD, List.getElem?_eq_getElem (by omega : j < xs.length)]; rfl
      have hX0 := hX.1
      clear hX hc
      have HE := Aside0.mk eX
      clear eX
      obtain ⟨y, hyy⟩ : ∃ y, xs.getD j 0 = y := ⟨_, rfl⟩
      obtain ⟨X, hXX⟩ : ∃ y, leN (xs.drop (j + 1)) = y := ⟨_, rfl⟩
      rw [hyy] at cy hy
      rw [hXX] at hX2 hX0 ⊢
      have HE := Aside0.mk (show leN (xs.drop j) = y + 256 * X by rw [HE.out, hyy, hXX])
      clear hyy hXX
      have hj : j < 4 := by omega
      have hjl : j < xs.length := hk
      have HK := Aside0.mk hk
      clear hk
      go_wp2
      go_roundw
      case rel => exact ⟨j, by have := HK.out; omega, by go_num, by rw [HE.out]; go_num, trivial⟩
      case measure => first | (simp [intOf]; done) | (simp [intOf]; omega)
/-- Peek is Load of one byte. -/
theorem peek_load {T : Tabs} {l : List Int} {u : Bool} {va : Int} (hv : R32 va) {xs : List Pc} {f : Flt} {ps' : List (Int × Int)} (h : Pcs T l u false true [] va 1 xs f ps') : f = (peekF T [] l va u).2 ∧ (f.1 = 0 → loadL l xs = [(peekF T [] l va u).1]) := by
  have s : stepN va 1 = 1 := by unfold stepN; split <;> omega
  unfold peekF
  by_cases hf : (findF T [] l va 1 u false).2.1 = 0
  · have d := Pcs.more (T := T) (l := l) (u := u) (wr := false) (keep := true) (ps := []) (va := va) (n := 1) (by decide) (by rw [s]; exact hf) (Pcs.done (by rw [s]; decide))
    obtain ⟨rfl, rfl, rfl⟩ := d.det h
    have hfit := findF_fit hf
    rw [if_neg (by simpa using hf)]
    refine ⟨rfl, fun _ => ?_⟩
    rw [s]
    rw [if_pos (show (noF : Flt).1 = 0 from rfl)]
    have hr : 0 ≤ (findF T [] l va 1 u false).1 := (findF_r' va 1 hv u false).1
    generalize findF T [] l va 1 u false = r at *
    unfold loadL
    rw [List.flatMap_cons, List.flatMap_nil, List.append_nil]
    show (l.drop r.1.toNat).take 1 = [l.getD r.1.toNat 0]
    by_cases hlt : r.1.toNat < l.length
    · rw [List.drop_eq_getElem_cons hlt, List.getD_eq_getElem?_getD, List.getElem?_eq_getElem hlt]; rfl
    · exfalso
      have := hfit.1
      omega
  · have d := Pcs.stop (T := T) (l := l) (u := u) (wr := false) (keep := true) (ps := []) (va := va) (n := 1) (by decide) (by rw [s]; exact hf)
    obtain ⟨rfl, rfl, rfl⟩ := d.det h
    rw [if_pos hf, s]
    exact ⟨rfl, fun h => absurd h hf⟩
end Go.Proofs.Ytiogbgjeimdgmaa.MmuWalk
