/- The translation buffer's functions of layer 4, walked: New, at. -/
import Derived.Test.YtiogbgjeimdgmaaProg
import Derived.Below
import Derived.Deep.Draws
import Derived.Deep.AppendLies
import Derived.OwnWalk
import Derived.Laws.MakeOwn
import Derived.Laws.OwnMore
import Derived.Laws.CopyOwn
import Derived.Deep.OwnRows
import Derived.Tactics
import Derived.Laws.Slices
import Derived.WalkKit
import Derived.KernelRfl
import Derived.RowKit3
import Derived.Deep.LoopGhost
import Derived.Deep.QuietTactic
import Derived.BigQuiet
import Derived.WideLaws
import Derived.Deep.DeepCutAuto
import Derived.Deep.CutBlock
import Derived.Deep.RegionHeld3
import Derived.Laws.Rows
import Derived.OrdersHeld
import Derived.Laws.BitsLemmas
import Derived.RowKit
import Derived.Test.YtiogbgjeimdgmaaWMore
import Derived.Test.YtiogbgjeimdgmaaAid
namespace Go.Proofs.Ytiogbgjeimdgmaa.TlbWalk
open Go.RowKit Go.Proofs.Ytiogbgjeimdgmaa.Aid Go.Proofs.YtiogbgjeimdgmaaW.PrintWords Go.Proofs.YtiogbgjeimdgmaaW.PrintLast Go.Proofs.YtiogbgjeimdgmaaW.PrintMore
attribute [local go_sem] max2_int min2_int max_two min_two max_three min_three max_four min_four   -- for this text's walks alone
set_option linter.unusedVariables false
set_option linter.unusedSimpArgs false
/-! Pages and their entries, as cells. -/
def cells2 (ps : List (Int × Int)) : List Value := ps.flatMap fun p => [.int .u32 p.1, .int .u32 p.2]
theorem cells2_cons (p : Int × Int) (ps : List (Int × Int)) : cells2 (p :: ps) = .int .u32 p.1 :: .int .u32 p.2 :: cells2 ps := rfl
theorem cells2_length : ∀ ps : List (Int × Int), (cells2 ps).length = ps.length * 2
  | [] => rfl
  | p :: ps => by rw [cells2_cons, List.length_cons, List.length_cons, cells2_length ps, List.length_cons]; omega
theorem cells2_append : ∀ ps qs : List (Int × Int), cells2 (ps ++ qs) = cells2 ps ++ cells2 qs
  | [], _ => rfl
  | p :: ps, qs => by rw [List.cons_append, cells2_cons, cells2_append ps qs, cells2_cons]; rfl
theorem cells2_take : ∀ (ps : List (Int × Int)) (k : Nat), (cells2 ps).take (k * 2) = cells2 (ps.take k)
  | _, 0 => by rw [Nat.zero_mul, List.take_zero, List.take_zero]; rfl
  | [], k + 1 => by rw [List.take_nil]; exact List.take_nil
  | p :: ps, k + 1 => by
    rw [cells2_cons, show (k + 1) * 2 = k * 2 + 1 + 1 from by omega, List.take_succ_cons, List.take_succ_cons, cells2_take ps k, List.take_succ_cons, cells2_cons]
theorem cells2_drop : ∀ (ps : List (Int × Int)) (k : Nat), (cells2 ps).drop (k * 2) = cells2 (ps.drop k)
  | _, 0 => by rw [Nat.zero_mul, List.drop_zero, List.drop_zero]
  | [], k + 1 => by rw [List.drop_nil]; exact List.drop_nil
  | p :: ps, k + 1 => by
    rw [cells2_cons, show (k + 1) * 2 = k * 2 + 1 + 1 from by omega, List.drop_succ_cons, List.drop_succ_cons, cells2_drop ps k, List.drop_succ_cons]
def nil2 : Int × Int := (0, 0)
theorem cells2_fst : ∀ (ps : List (Int × Int)) (k : Nat), k < ps.length → (cells2 ps)[k * 2]? = some (.int .u32 (ps.getD k nil2).1)
  | [], _, h => absurd h (Nat.not_lt_zero _)
  | p :: ps, 0, _ => rfl
  | p :: ps, k + 1, h => by
    rw [cells2_cons, show (k + 1) * 2 = k * 2 + 1 + 1 from by omega, List.getElem?_cons_succ, List.getElem?_cons_succ, cells2_fst ps k (by simpa using h), List.getD_cons_succ]
theorem cells2_snd : ∀ (ps : List (Int × Int)) (k : Nat), k < ps.length → (cells2 ps)[k * 2 + 1]? = some (.int .u32 (ps.getD k nil2).2)
  | [], _, h => absurd h (Nat.not_lt_zero _)
  | p :: ps, 0, _ => rfl
  | p :: ps, k + 1, h => by
    rw [cells2_cons, show (k + 1) * 2 + 1 = k * 2 + 1 + 1 + 1 from by omega, List.getElem?_cons_succ, List.getElem?_cons_succ, cells2_snd ps k (by simpa using h), List.getD_cons_succ]
theorem cells2_one (ps : List (Int × Int)) : ∀ u ∈ cells2 ps, u.oneCell' = true := by
  intro u hu
  unfold cells2 at hu
  obtain ⟨p, _, hp⟩ := List.mem_flatMap.1 hu
  simp only [List.mem_cons, List.not_mem_nil, or_false] at hp
  rcases hp with rfl | rfl <;> rfl

/-- A buffer: block g holds its one field, the slice v, which owns the slots ps. -/
def TlbAt (W : World) (base g : Nat) (v : Value) (ps : List (Int × Int)) : Prop :=
  W.heap[g]? = some (.cells #[v] 132 (0, 0)) ∧ base ≤ g ∧ W.ownsRow base 136 2 v ps.length (cells2 ps) ∧ ps.length ≤ 8
theorem TlbAt.lower {W : World} {base base' g : Nat} {v : Value} {ps : List (Int × Int)} (h : TlbAt W base g v ps) (hb : base' ≤ base) : TlbAt W base' g v ps :=
  ⟨h.1, Nat.le_trans hb h.2.1, own_less h.2.2.1 hb, h.2.2.2⟩
theorem TlbAt.lt {W : World} {base g : Nat} {v : Value} {ps : List (Int × Int)} (h : TlbAt W base g v ps) : g < W.heap.size := (Array.getElem?_eq_some_iff.1 h.1).1
theorem TlbAt.kept {W W' : World} {base g : Nat} {v : Value} {ps : List (Int × Int)} {row : Option Nat} (h : TlbAt W base g v ps) (k : W.grownBy W' row) (h1 : some g ≠ row) (h2 : v.ownBlock = none ∨ v.ownBlock ≠ row) : TlbAt W' base g v ps :=
  ⟨(k.block g h.lt h1).trans h.1, h.2.1, h.2.2.1.kept k h2, h.2.2.2⟩
theorem TlbAt.then {W W' : World} {base g : Nat} {v : Value} {ps : List (Int × Int)} (h : TlbAt W base g v ps) (k : Below W.heap.size W W') : TlbAt W' base g v ps := by
  refine h.kept (row := none) ⟨k.os, k.tape, k.output, k.size, fun i hi _ => k.block i hi⟩ (by simp) ?_
  cases v.ownBlock with
  | none => exact .inl rfl
  | some b => exact .inr (by simp)
theorem TlbAt.field {W : World} {base g : Nat} {v : Value} {ps : List (Int × Int)} (h : TlbAt W base g v ps) : W.cell? ⟨g, 0, none⟩ = some v := cell_of_row W g 0 _ _ _ h.1
theorem TlbAt.free {W : World} {base g : Nat} {v : Value} {ps : List (Int × Int)} (h : TlbAt W base g v ps) : W.frozen? ⟨g, 0, none⟩ = false := frozen_of_row W g 0 _ _ h.1
/-- The slice is nil, or the head of a row. -/
theorem TlbAt.shape {W : World} {base g : Nat} {v : Value} {ps : List (Int × Int)} (h : TlbAt W base g v ps) : (v = .slice none 0 0 ∧ ps = []) ∨ ∃ b c, v = .slice (some ⟨b, 0, none⟩) ps.length c ∧ ps.length ≤ c ∧ c ≤ maxLen ∧ base ≤ b ∧ b < W.heap.size := by
  rcases h.2.2.1.2 with ⟨rfl, h0⟩ | ⟨b, c, cur, rfl, hb, hh, h1, h2, h3, h4⟩
  · exact .inl ⟨rfl, List.eq_nil_of_length_eq_zero h0⟩
  · exact .inr ⟨b, c, rfl, h1, h2, hb, (Array.getElem?_eq_some_iff.1 hh).1⟩
theorem TlbAt.cells {W : World} {base g b n c : Nat} {ps : List (Int × Int)} (h : TlbAt W base g (.slice (some ⟨b, 0, none⟩) n c) ps) (k : Nat) (hk : k < ps.length) :
    W.cell? ⟨b, k * 2, none⟩ = some (.int .u32 (ps.getD k nil2).1) ∧ W.cell? ⟨b, k * 2 + 1, none⟩ = some (.int .u32 (ps.getD k nil2).2) := by
  have hn : n = ps.length := by
    rcases h.2.2.1.2 with ⟨hv, _⟩ | ⟨b', c', cur, hv, _⟩
    · simp at hv
    · simp only [Value.slice.injEq] at hv
      exact hv.2.1
  subst hn
  have h0 := h.2.2.1.cellAt (k * 2) (by omega)
  have h1 := h.2.2.1.cellAt (k * 2 + 1) (by omega)
  rw [cells2_fst ps k hk] at h0
  rw [cells2_snd ps k hk] at h1
  exact ⟨h0, h1⟩
/-- A page's place; the length, where it has none. -/
def posP (page : Int) : List (Int × Int) → Nat
  | [] => 0
  | p :: ps => if p.1 = page then 0 else posP page ps + 1
theorem posP_at (page : Int) : ∀ (ps : List (Int × Int)) (k : Nat), k < ps.length → (ps.getD k nil2).1 = page → (∀ j, j < k → (ps.getD j nil2).1 ≠ page) → posP page ps = k
  | [], _, h, _, _ => absurd h (Nat.not_lt_zero _)
  | p :: ps, 0, _, he, _ => by
    have he' : p.1 = page := he
    unfold posP; rw [if_pos he']
  | p :: ps, k + 1, h, he, hn => by
    have h0 : p.1 ≠ page := hn 0 (by omega)
    unfold posP
    rw [if_neg h0, posP_at page ps k (by simpa using h) (by simpa using he) (fun j hj => by simpa using hn (j + 1) (by omega))]
theorem posP_none (page : Int) : ∀ (ps : List (Int × Int)), (∀ j, j < ps.length → (ps.getD j nil2).1 ≠ page) → posP page ps = ps.length
  | [], _ => rfl
  | p :: ps, hn => by
    have h0 : p.1 ≠ page := hn 0 (by simp)
    unfold posP
    rw [if_neg h0, posP_none page ps (fun j hj => by simpa using hn (j + 1) (by simpa using hj)), List.length_cons]
theorem posP_le (page : Int) : ∀ ps : List (Int × Int), posP page ps ≤ ps.length
  | [] => Nat.le_refl _
  | p :: ps => by
    unfold posP
    have := posP_le page ps
    rw [List.length_cons]
    split <;> omega
theorem posP_page (page : Int) : ∀ ps : List (Int × Int), posP page ps < ps.length → (ps.getD (posP page ps) nil2).1 = page
  | [], h => absurd h (Nat.not_lt_zero _)
  | p :: ps, h => by
    by_cases hp : p.1 = page
    · unfold posP; rw [if_pos hp]; exact hp
    · unfold posP at h ⊢
      rw [if_neg hp] at h ⊢
      rw [List.getD_cons_succ]
      exact posP_page page ps (by simpa using h)
def atI (page : Int) (ps : List (Int × Int)) : Int := if posP page ps < ps.length then (posP page ps : Int) else -1

theorem tnew_call (w : World) : Calls Try.prog 56 #[] w fun e w' => ∃ g, e = .returned (.pointer (some ⟨g, 0, none⟩)) ∧ TlbAt w' w.heap.size g (.slice none 0 0) [] ∧ Below w.heap.size w w' := by
  go_enter Try.func56, Try.ntmps56
  go_wp2
  go_ret
  exact ⟨w.heap.size, rfl, ⟨blk_new _ _, Nat.le_refl _, World.ownsRow_nil _ _ _ _, Nat.zero_le _⟩, below_alloc (Below.refl _ _) _⟩

theorem index_call (w : World) (A : Option Addr) (c q : Nat) (page : Int) (ps : List (Int × Int)) (hl : ps.length ≤ 8) (hq : w.cell? ⟨q, 0, none⟩ = some (.int .u32 page)) (hq2 : q < w.heap.size)
    (hA : 0 < ps.length → ∃ b, A = some ⟨b, 0, none⟩ ∧ b < w.heap.size ∧ ∀ k, k < ps.length → w.cell? ⟨b, k * 2, none⟩ = some (.int .u32 (ps.getD k nil2).1) ∧ w.cell? ⟨b, k * 2 + 1, none⟩ = some (.int .u32 (ps.getD k nil2).2)) :
    Calls Try.prog 88 #[.slice A ps.length c, .func (.func 89) #[] #[.pointer (some ⟨q, 0, none⟩)]] w fun e w' => e = .returned (.int .i64 (atI page ps)) ∧ Below w.heap.size w w' := by
  have HA := Aside0.mk hA
  have HQ := Aside0.mk hq
  clear hA hq
  go_enter Try.func88, Try.ntmps88
  go_wp2
  go_loopw [8] (fun i wr => ∃ k : Nat, k ≤ ps.length ∧ i = .int .i64 k ∧ Below w.heap.size w wr ∧ Aside0 (∀ j, j < k → (ps.getD j nil2).1 ≠ page)) (fun i _ => ps.length - (intOf i).toNat)
  case atStart => exact ⟨0, Nat.zero_le _, rfl, Below.refl _ _, ⟨fun j hj => absurd hj (Nat.not_lt_zero _)⟩⟩
  case round =>
    obtain ⟨k, hk, rfl, hb, hn⟩ := hrel
    have HB := Aside0.mk hb
    clear hb
    by_cases hkn : k = ps.length
    · go_wp2
      go_ret
      refine ⟨?_, HB.out⟩
      have e : atI page ps = -1 := by
        unfold atI
        rw [posP_none page ps (fun j hj => hn.out j (by omega)), if_neg (Nat.lt_irrefl _)]
      rw [e]
      rfl
    · obtain ⟨b, rfl, hbl, hc⟩ := HA.out (by omega)
      have c0 := (HB.out.cell (p := ⟨b, k * 2, none⟩) hbl).trans (hc k (by omega)).1
      have c1 := (HB.out.cell (p := ⟨b, k * 2 + 1, none⟩) hbl).trans (hc k (by omega)).2
      have cq : ∀ o, (wr.alloc o).cell? ⟨q, 0, none⟩ = some (.int .u32 page) := fun o => ((below_alloc HB.out o).cell (p := ⟨q, 0, none⟩) hq2).trans HQ.out
      clear hc
      have hk' : k < ps.length := by omega
      generalize hy1 : (ps.getD k nil2).1 = y1 at *
      generalize (ps.getD k nil2).2 = y2 at *
      have HY1 := Aside0.mk hy1
      clear hy1
      by_cases he : y1 = page
      · subst he
        have e : atI y1 ps = k := by
          unfold atI
          rw [posP_at y1 ps k hk' HY1.out hn.out, if_pos hk']
        have E := Aside0.mk e
        clear e
        go_wp2
        go_ret
        refine ⟨?_, below_alloc HB.out _⟩
        rw [E.out]
        rfl
      · have he' : (y1 == page) = false := beq_eq_false_iff_ne.mpr he
        go_wp2
        go_roundw
        case rel =>
          refine ⟨k + 1, by omega, rfl, below_alloc HB.out _, ⟨fun j hj => ?_⟩⟩
          by_cases hjk : j = k
          · subst hjk; rw [HY1.out]; exact he
          · exact hn.out j (by omega)
        case measure => simp [intOf]; omega

theorem at_call (w : World) (base g : Nat) (v : Value) (ps : List (Int × Int)) (page : Int) (h : TlbAt w base g v ps) :
    Calls Try.prog 78 #[.pointer (some ⟨g, 0, none⟩), .int .u32 page] w fun e w' => e = .returned (.int .i64 (atI page ps)) ∧ Below w.heap.size w w' := by
  have hf := h.field
  have hg := h.lt
  have hl := h.2.2.2
  obtain ⟨A, c, rfl, hA⟩ : ∃ A c, v = .slice A ps.length c ∧ (0 < ps.length → ∃ b, A = some ⟨b, 0, none⟩ ∧ b < w.heap.size ∧ ∀ k, k < ps.length → w.cell? ⟨b, k * 2, none⟩ = some (.int .u32 (ps.getD k nil2).1) ∧ w.cell? ⟨b, k * 2 + 1, none⟩ = some (.int .u32 (ps.getD k nil2).2)) := by
    rcases h.shape with ⟨rfl, rfl⟩ | ⟨b, c, rfl, _, _, _, hb⟩
    · exact ⟨none, 0, rfl, fun q => absurd q (by simp)⟩
    · exact ⟨some ⟨b, 0, none⟩, c, rfl, fun _ => ⟨b, rfl, hb, fun k hk => h.cells k hk⟩⟩
  have X := Aside0.mk (index_call (w.alloc (.cells #[.int .u32 page] 23)) A c w.heap.size page ps hl (cell_of_row _ _ 0 _ _ _ (blk_new _ _)) (by simp) (fun q => by
    obtain ⟨b, e, hb, hc⟩ := hA q
    refine ⟨b, e, by simp; omega, fun k hk => ?_⟩
    have hbl := below_alloc (Below.refl w.heap.size w) (.cells #[.int .u32 page] 23)
    exact ⟨(hbl.cell (p := ⟨b, k * 2, none⟩) hb).trans (hc k hk).1, (hbl.cell (p := ⟨b, k * 2 + 1, none⟩) hb).trans (hc k hk).2⟩))
  have hf' : (w.alloc (.cells #[.int .u32 page] 23)).cell? ⟨g, 0, none⟩ = some (.slice A ps.length c) := ((below_alloc (Below.refl w.heap.size w) (.cells #[.int .u32 page] 23)).cell (p := ⟨g, 0, none⟩) hg).trans hf
  clear h hA
  go_enter Try.func78, Try.ntmps78
  go_wp2_with (first | (go_at_call 88; (with_reducible refine (X.out).mono ?_); rintro e w' ⟨rfl, hb⟩; have B := Aside0.mk hb; clear hb))
  go_ret
  exact ⟨rfl, below_then (below_alloc (Below.refl _ _) _) (by simp) B.out⟩
end Go.Proofs.Ytiogbgjeimdgmaa.TlbWalk
