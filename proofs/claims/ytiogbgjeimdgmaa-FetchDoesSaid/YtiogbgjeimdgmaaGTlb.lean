/- The translation buffer's functions of layer 4, walked: New, at. -/
import Derived.Deep.RegionLaw
import Derived.OneCell
import Derived.Test.YtiogbgjeimdgmaaProg
import Derived.Below
import Derived.Deep.Draws
import Derived.Deep.AppendLies
import Derived.OwnWalk
import Derived.Laws.MakeOwn
import Derived.Laws.OwnMore
import Derived.Laws.CopyOwn
import Derived.Deep.OwnRows
import Derived.Tactics
import Derived.Laws.Slices
import Derived.WalkKit
import Derived.KernelRfl
import Derived.RowKit3
import Derived.Deep.LoopGhost
import Derived.Deep.QuietTactic
import Derived.BigQuiet
import Derived.WideLaws
import Derived.Deep.DeepCutAuto
import Derived.Deep.CutBlock
import Derived.Deep.RegionHeld3
import Derived.Laws.Rows
import Derived.OrdersHeld
import Derived.Laws.BitsLemmas
import Derived.RowKit
import Derived.Test.YtiogbgjeimdgmaaWMore
import Derived.Test.YtiogbgjeimdgmaaAid
namespace Go.Proofs.Ytiogbgjeimdgmaa.TlbWalk
open Go.RowKit Go.Proofs.Ytiogbgjeimdgmaa.Aid Go.Proofs.YtiogbgjeimdgmaaW.PrintWords Go.Proofs.YtiogbgjeimdgmaaW.PrintLast Go.Proofs.YtiogbgjeimdgmaaW.PrintMore
attribute [local go_sem] max2_int min2_int max_two min_two max_three min_three max_four min_four   -- for this text's walks alone
set_option linter.unusedVariables false
set_option linter.unusedSimpArgs false
/-! Pages and their entries, as cells. -/
def cells2 (ps : List (Int × Int)) : List Value := ps.flatMap fun p => [.int .u32 p.1, .int .u32 p.2]
theorem cells2_cons (p : Int × Int) (ps : List (Int × Int)) : cells2 (p :: ps) = .int .u32 p.1 :: .int .u32 p.2 :: cells2 ps := rfl
theorem cells2_length : ∀ ps : List (Int × Int), (cells2 ps).length = ps.length * 2
  | [] => rfl
  | p :: ps => by rw [cells2_cons, List.length_cons, List.length_cons, cells2_length ps, List.length_cons]; omega
theorem cells2_append : ∀ ps qs : List (Int × Int), cells2 (ps ++ qs) = cells2 ps ++ cells2 qs
  | [], _ => rfl
  | p :: ps, qs => by rw [List.cons_append, cells2_cons, cells2_append ps qs, cells2_cons]; rfl
theorem cells2_take : ∀ (ps : List (Int × Int)) (k : Nat), (cells2 ps).take (k * 2) = cells2 (ps.take k)
  | _, 0 => by rw [Nat.zero_mul, List.take_zero, List.take_zero]; rfl
  | [], k + 1 => by rw [List.take_nil]; exact List.take_nil
  | p :: ps, k + 1 => by
    rw [cells2_cons, show (k + 1) * 2 = k * 2 + 1 + 1 from by omega, List.take_succ_cons, List.take_succ_cons, cells2_take ps k, List.take_succ_cons, cells2_cons]
theorem cells2_drop : ∀ (ps : List (Int × Int)) (k : Nat), (cells2 ps).drop (k * 2) = cells2 (ps.drop k)
  | _, 0 => by rw [Nat.zero_mul, List.drop_zero, List.drop_zero]
  | [], k + 1 => by rw [List.drop_nil]; exact List.drop_nil
  | p :: ps, k + 1 => by
    rw [cells2_cons, show (k + 1) * 2 = k * 2 + 1 + 1 from by omega, List.drop_succ_cons, List.drop_succ_cons, cells2_drop ps k, List.drop_succ_cons]
def nil2 : Int × Int := (0, 0)
theorem cells2_fst : ∀ (ps : List (Int × Int)) (k : Nat), k < ps.length → (cells2 ps)[k * 2]? = some (.int .u32 (ps.getD k nil2).1)
  | [], _, h => absurd h (Nat.not_lt_zero _)
  | p :: ps, 0, _ => rfl
  | p :: ps, k + 1, h => by
    rw [cells2_cons, show (k + 1) * 2 = k * 2 + 1 + 1 from by omega, List.getElem?_cons_succ, List.getElem?_cons_succ, cells2_fst ps k (by simpa using h), List.getD_cons_succ]
theorem cells2_snd : ∀ (ps : List (Int × Int)) (k : Nat), k < ps.length → (cells2 ps)[k * 2 + 1]? = some (.int .u32 (ps.getD k nil2).2)
  | [], _, h => absurd h (Nat.not_lt_zero _)
  | p :: ps, 0, _ => rfl
  | p :: ps, k + 1, h => by
    rw [cells2_cons, show (k + 1) * 2 + 1 = k * 2 + 1 + 1 + 1 from by omega, List.getElem?_cons_succ, List.getElem?_cons_succ, cells2_snd ps k (by simpa using h), List.getD_cons_succ]
theorem cells2_one (ps : List (Int × Int)) : ∀ u ∈ cells2 ps, u.oneCell' = true := by
  intro u hu
  unfold cells2 at hu
  obtain ⟨p, _, hp⟩ := List.mem_flatMap.1 hu
  simp only [List.mem_cons, List.not_mem_nil, or_false] at hp
  rcases hp with rfl | rfl <;> rfl

/-- A buffer: block g holds its one field, the slice v, which owns the slots ps. -/
def TlbAt (W : World) (base g : Nat) (v : Value) (ps : List (Int × Int)) : Prop :=
  W.heap[g]? = some (.cells #[v] 132 (0, 0)) ∧ base ≤ g ∧ W.ownsRow base 136 2 v ps.length (cells2 ps) ∧ ps.length ≤ 8
theorem TlbAt.lower {W : World} {base base' g : Nat} {v : Value} {ps : List (Int × Int)} (h : TlbAt W base g v ps) (hb : base' ≤ base) : TlbAt W base' g v ps :=
  ⟨h.1, Nat.le_trans hb h.2.1, own_less h.2.2.1 hb, h.2.2.2⟩
theorem TlbAt.lt {W : World} {base g : Nat} {v : Value} {ps : List (Int × Int)} (h : TlbAt W base g v ps) : g < W.heap.size := (Array.getElem?_eq_some_iff.1 h.1).1
theorem TlbAt.kept {W W' : World} {base g : Nat} {v : Value} {ps : List (Int × Int)} {row : Option Nat} (h : TlbAt W base g v ps) (k : W.grownBy W' row) (h1 : some g ≠ row) (h2 : v.ownBlock = none ∨ v.ownBlock ≠ row) : TlbAt W' base g v ps :=
  ⟨(k.block g h.lt h1).trans h.1, h.2.1, h.2.2.1.kept k h2, h.2.2.2⟩
theorem TlbAt.then {W W' : World} {base g : Nat} {v : Value} {ps : List (Int × Int)} (h : TlbAt W base g v ps) (k : Below W.heap.size W W') : TlbAt W' base g v ps := by
  refine h.kept (row := none) ⟨k.os, k.tape, k.output, k.size, fun i hi _ => k.block i hi⟩ (by simp) ?_
  cases v.ownBlock with
  | none => exact .inl rfl
  | some b => exact .inr (by simp)
theorem TlbAt.field {W : World} {base g : Nat} {v : Value} {ps : List (Int × Int)} (h : TlbAt W base g v ps) : W.cell? ⟨g, 0, none⟩ = some v := cell_of_row W g 0 _ _ _ h.1
theorem TlbAt.free {W : World} {base g : Nat} {v : Value} {ps : List (Int × Int)} (h : TlbAt W base g v ps) : W.frozen? ⟨g, 0, none⟩ = false := frozen_of_row W g 0 _ _ h.1
/-- The slice is nil, or the head of a row. -/
theorem TlbAt.shape {W : World} {base g : Nat} {v : Value} {ps : List (Int × Int)} (h : TlbAt W base g v ps) : (v = .slice none 0 0 ∧ ps = []) ∨ ∃ b c, v = .slice (some ⟨b, 0, none⟩) ps.length c ∧ ps.length ≤ c ∧ c ≤ maxLen ∧ base ≤ b ∧ b < W.heap.size := by
  rcases h.2.2.1.2 with ⟨rfl, h0⟩ | ⟨b, c, cur, rfl, hb, hh, h1, h2, h3, h4⟩
  · exact .inl ⟨rfl, List.eq_nil_of_length_eq_zero h0⟩
  · exact .inr ⟨b, c, rfl, h1, h2, hb, (Array.getElem?_eq_some_iff.1 hh).1⟩
theorem TlbAt.cells {W : World} {base g b n c : Nat} {ps : List (Int × Int)} (h : TlbAt W base g (.slice (some ⟨b, 0, none⟩) n c) ps) (k : Nat) (hk : k < ps.length) :
    W.cell? ⟨b, k * 2, none⟩ = some (.int .u32 (ps.getD k nil2).1) ∧ W.cell? ⟨b, k * 2 + 1, none⟩ = some (.int .u32 (ps.getD k nil2).2) := by
  have hn : n = ps.length := by
    rcases h.2.2.1.2 with ⟨hv, _⟩ | ⟨b', c', cur, hv, _⟩
    · simp at hv
    · simp only [Value.slice.injEq] at hv
      exact hv.2.1
  subst hn
  have h0 := h.2.2.1.cellAt (k * 2) (by omega)
  have h1 := h.2.2.1.cellAt (k * 2 + 1) (by omega)
  rw [cells2_fst ps k hk] at h0
  rw [cells2_snd ps k hk] at h1
  exact ⟨h0, h1⟩
/-- A page's place; the length, where it has none. -/
def posP (page : Int) : List (Int × Int) → Nat
  | [] => 0
  | p :: ps => if p.1 = page then 0 else posP page ps + 1
theorem posP_at (page : Int) : ∀ (ps : List (Int × Int)) (k : Nat), k < ps.length → (ps.getD k nil2).1 = page → (∀ j, j < k → (ps.getD j nil2).1 ≠ page) → posP page ps = k
  | [], _, h, _, _ => absurd h (Nat.not_lt_zero _)
  | p :: ps, 0, _, he, _ => by
    have he' : p.1 = page := he
    unfold posP; rw [if_pos he']
  | p :: ps, k + 1, h, he, hn => by
    have h0 : p.1 ≠ page := hn 0 (by omega)
    unfold posP
    rw [if_neg h0, posP_at page ps k (by simpa using h) (by simpa using he) (fun j hj => by simpa using hn (j + 1) (by omega))]
theorem posP_none (page : Int) : ∀ (ps : List (Int × Int)), (∀ j, j < ps.length → (ps.getD j nil2).1 ≠ page) → posP page ps = ps.length
  | [], _ => rfl
  | p :: ps, hn => by
    have h0 : p.1 ≠ page := hn 0 (by simp)
    unfold posP
    rw [if_neg h0, posP_none page ps (fun j hj => by simpa using hn (j + 1) (by simpa using hj)), List.length_cons]
theorem posP_page (page : Int) : ∀ ps : List (Int × Int), posP page ps < ps.length → (ps.getD (posP page ps) nil2).1 = page
  | [], h => absurd h (Nat.not_lt_zero _)
  | p :: ps, h => by
    by_cases hp : p.1 = page
    · unfold posP; rw [if_pos hp]; exact hp
    · unfold posP at h ⊢
      rw [if_neg hp] at h ⊢
      rw [List.getD_cons_succ]
      exact posP_page page ps (by simpa using h)
def atI (page : Int) (ps : List (Int × Int)) : Int := if posP page ps < ps.length then (posP page ps : Int) else -1

theorem tnew_call (w : World) : Calls Try.prog 56 #[] w fun e w' => ∃ g, e = .returned (.pointer (some ⟨g, 0, none⟩)) ∧ TlbAt w' w.heap.size g (.slice none 0 0) [] ∧ Below w.heap.size w w' := by
  go_enter Try.func56, Try.ntmps56
  go_wp2
  go_ret
  exact ⟨w.heap.size, rfl, ⟨blk_new _ _, Nat.le_refl _, World.ownsRow_nil _ _ _ _, Nat.zero_le _⟩, below_alloc (Below.refl _ _) _⟩

theorem index_call (w : World) (A : Option Addr) (c q : Nat) (page : Int) (ps : List (Int × Int)) (hl : ps.length ≤ 8) (hq : w.cell? ⟨q, 0, none⟩ = some (.int .u32 page)) (hq2 : q < w.heap.size)
    (hA : 0 < ps.length → ∃ b, A = some ⟨b, 0, none⟩ ∧ b < w.heap.size ∧ ∀ k, k < ps.length → w.cell? ⟨b, k * 2, none⟩ = some (.int .u32 (ps.getD k nil2).1) ∧ w.cell? ⟨b, k * 2 + 1, none⟩ = some (.int .u32 (ps.getD k nil2).2)) :
    Calls Try.prog 88 #[.slice A ps.length c, .func (.func 89) #[] #[.pointer (some ⟨q, 0, none⟩)]] w fun e w' => e = .returned (.int .i64 (atI page ps)) ∧ Below w.heap.size w w' := by
  have HA := Aside0.mk hA
  have HQ := Aside0.mk hq
  clear hA hq
  go_enter Try.func88, Try.ntmps88
  go_wp2
  go_loopw [8] (fun i wr => ∃ k : Nat, k ≤ ps.length ∧ i = .int .i64 k ∧ Below w.heap.size w wr ∧ Aside0 (∀ j, j < k → (ps.getD j nil2).1 ≠ page)) (fun i _ => ps.length - (intOf i).toNat)
  case atStart => exact ⟨0, Nat.zero_le _, rfl, Below.refl _ _, ⟨fun j hj => absurd hj (Nat.not_lt_zero _)⟩⟩
  case round =>
    obtain ⟨k, hk, rfl, hb, hn⟩ := hrel
    have HB := Aside0.mk hb
    clear hb
    by_cases hkn : k = ps.length
    · go_wp2
      go_ret
      refine ⟨?_, HB.out⟩
      have e : atI page ps = -1 := by
        unfold atI
        rw [posP_none page ps (fun j hj => hn.out j (by omega)), if_neg (Nat.lt_irrefl _)]
      rw [e]
      rfl
    · obtain ⟨b, rfl, hbl, hc⟩ := HA.out (by omega)
      have c0 := (HB.out.cell (p := ⟨b, k * 2, none⟩) hbl).trans (hc k (by omega)).1
      have c1 := (HB.out.cell (p := ⟨b, k * 2 + 1, none⟩) hbl).trans (hc k (by omega)).2
      have cq : ∀ o, (wr.alloc o).cell? ⟨q, 0, none⟩ = some (.int .u32 page) := fun o => ((below_alloc HB.out o).cell (p := ⟨q, 0, none⟩) hq2).trans HQ.out
      clear hc
      have hk' : k < ps.length := by omega
      generalize hy1 : (ps.getD k nil2).1 = y1 at *
      generalize (ps.getD k nil2).2 = y2 at *
      have HY1 := Aside0.mk hy1
      clear hy1
      by_cases he : y1 = page
      · subst he
        have e : atI y1 ps = k := by
          unfold atI
          rw [posP_at y1 ps k hk' HY1.out hn.out, if_pos hk']
        have E := Aside0.mk e
        clear e
        go_wp2
        go_ret
        refine ⟨?_, below_alloc HB.out _⟩
        rw [E.out]
        rfl
      · have he' : (y1 == page) = false := beq_eq_false_iff_ne.mpr he
        go_wp2
        go_roundw
        case rel =>
          refine ⟨k + 1, by omega, rfl, below_alloc HB.out _, ⟨fun j hj => ?_⟩⟩
          by_cases hjk : j = k
          · subst hjk; rw [HY1.out]; exact he
          · exact hn.out j (by omega)
        case measure => simp [intOf]; omega

theorem at_call (w : World) (base g : Nat) (v : Value) (ps : List (Int × Int)) (page : Int) (h : TlbAt w base g v ps) :
    Calls Try.prog 78 #[.pointer (some ⟨g, 0, none⟩), .int .u32 page] w fun e w' => e = .returned (.int .i64 (atI page ps)) ∧ Below w.heap.size w w' := by
  have hf := h.field
  have hg := h.lt
  have hl := h.2.2.2
  obtain ⟨A, c, rfl, hA⟩ : ∃ A c, v = .slice A ps.length c ∧ (0 < ps.length → ∃ b, A = some ⟨b, 0, none⟩ ∧ b < w.heap.size ∧ ∀ k, k < ps.length → w.cell? ⟨b, k * 2, none⟩ = some (.int .u32 (ps.getD k nil2).1) ∧ w.cell? ⟨b, k * 2 + 1, none⟩ = some (.int .u32 (ps.getD k nil2).2)) := by
    rcases h.shape with ⟨rfl, rfl⟩ | ⟨b, c, rfl, _, _, _, hb⟩
    · exact ⟨none, 0, rfl, fun q => absurd q (by simp)⟩
    · exact ⟨some ⟨b, 0, none⟩, c, rfl, fun _ => ⟨b, rfl, hb, fun k hk => h.cells k hk⟩⟩
  have X := Aside0.mk (index_call (w.alloc (.cells #[.int .u32 page] 23)) A c w.heap.size page ps hl (cell_of_row _ _ 0 _ _ _ (blk_new _ _)) (by simp) (fun q => by
    obtain ⟨b, e, hb, hc⟩ := hA q
    refine ⟨b, e, by simp; omega, fun k hk => ?_⟩
    have hbl := below_alloc (Below.refl w.heap.size w) (.cells #[.int .u32 page] 23)
    exact ⟨(hbl.cell (p := ⟨b, k * 2, none⟩) hb).trans (hc k hk).1, (hbl.cell (p := ⟨b, k * 2 + 1, none⟩) hb).trans (hc k hk).2⟩))
  have hf' : (w.alloc (.cells #[.int .u32 page] 23)).cell? ⟨g, 0, none⟩ = some (.slice A ps.length c) := ((below_alloc (Below.refl w.heap.size w) (.cells #[.int .u32 page] 23)).cell (p := ⟨g, 0, none⟩) hg).trans hf
  clear h hA
  go_enter Try.func78, Try.ntmps78
  go_wp2_with (first | (go_at_call 88; (with_reducible refine (X.out).mono ?_); rintro e w' ⟨rfl, hb⟩; have B := Aside0.mk hb; clear hb))
  go_ret
  exact ⟨rfl, below_then (below_alloc (Below.refl _ _) _) (by simp) B.out⟩
end Go.Proofs.Ytiogbgjeimdgmaa.TlbWalk
/- The translation buffer's functions of layer 4, walked: slices.Delete of slots. -/
namespace Go.Proofs.Ytiogbgjeimdgmaa.TlbWalk
open Go.RowKit Go.Proofs.Ytiogbgjeimdgmaa.Aid Go.Proofs.YtiogbgjeimdgmaaW.PrintWords Go.Proofs.YtiogbgjeimdgmaaW.PrintLast Go.Proofs.YtiogbgjeimdgmaaW.PrintMore
attribute [local go_sem] max2_int min2_int max_two min_two max_three min_three max_four min_four   -- for this text's walks alone
set_option linter.unusedVariables false
set_option linter.unusedSimpArgs false

theorem infoS : (Try.prog.info? 136).map (fun i => (i.zero, i.size, i.bytes)) = some (some (.agg #[.int .u32 0, .int .u32 0]), 2, 8) := by kernel_rfl
theorem own_pre {W : World} {base e size b n c : Nat} {xs : List Value} (h : W.ownsRow base e size (.slice (some ⟨b, 0, none⟩) n c) n xs) (k : Nat) (hk : k ≤ n) : W.ownsRow base e size (.slice (some ⟨b, 0, none⟩) k c) k (xs.take (k * size)) := by
  have hkm : k * size ≤ n * size := Nat.mul_le_mul_right _ hk
  refine ⟨by rw [List.length_take, h.1]; omega, .inr ?_⟩
  rcases h.2 with ⟨hv, _⟩ | ⟨b', c', cur, hv, h0, hh, h1, h2, h3, h4⟩
  · simp at hv
  · simp only [Value.slice.injEq, Option.some.injEq, Addr.mk.injEq, and_true, true_and] at hv
    obtain ⟨rfl, rfl⟩ := hv
    refine ⟨b, c, cur, rfl, h0, hh, by omega, h2, h3, ?_⟩
    rw [← h4, List.take_take, Nat.min_eq_left hkm]

theorem clear_run (W : World) (base b n c cc ty : Nat) (xs : List Value) (h : W.ownsRow base 136 2 (.slice (some ⟨b, 0, none⟩) n c) n xs) (hr : n + 1 ≤ c) :
    ∃ W', (Builtin.clear_ #[130] ty #[.slice (some ⟨b, n * 2, none⟩) 1 cc]).run Try.prog W = .ok (.tuple #[]) W' ∧ W'.ownsRow base 136 2 (.slice (some ⟨b, 0, none⟩) n c) n xs ∧ W.grownBy W' (some b) := by
  obtain ⟨i0, hi, hzz⟩ := Option.map_eq_some_iff.1 infoS
  simp only [Prod.mk.injEq] at hzz
  obtain ⟨hz0, hz1, hz2⟩ := hzz
  rcases h.2 with ⟨hv, _⟩ | ⟨b', c', cur, hv, h0, hh, h1, h2, h3, h4⟩
  · simp at hv
  simp only [Value.slice.injEq, Option.some.injEq, Addr.mk.injEq, and_true, true_and] at hv
  obtain ⟨rfl, rfl⟩ := hv
  obtain ⟨Z, hZ⟩ : ∃ Z : List Value, Z = [.int .u32 0, .int .u32 0] := ⟨_, rfl⟩
  have hZl : Z.length = 2 := by rw [hZ]; rfl
  have hZ1 : ∀ v ∈ Z, v.oneCell' = true := by
    intro v hv
    rw [hZ] at hv
    simp only [List.mem_cons, List.not_mem_nil, or_false, or_self] at hv
    rw [hv]; rfl
  have hst := run_storeCells_at Try.prog b (n * 2) 136 Z 0 cur W hh (by rw [hZl]; omega) hZ1
  rw [Nat.add_zero, hZl] at hst
  have hcl : cur.toList.length = c * 2 := by rw [Array.length_toList, h3]
  refine ⟨W.setRow b (cur.toList.take (n * 2) ++ Z ++ cur.toList.drop (n * 2 + 2)).toArray, ?_, ⟨h.1, .inr ⟨b, c, _, rfl, h0, setRow_heap W b cur _ 136 _ hh, h1, h2, ?_, ?_⟩⟩, ⟨rfl, rfl, rfl, by simp, fun k _ hk => setRow_other W b k _ (fun e => hk (by simp [e]))⟩⟩
  · rw [hZ] at hst ⊢
    simp [Builtin.clear_, run_underlying Try.underlying130, zeroValue, typeInfo, hi, hz0, Builtin.zeroCells, Value.cells]
    rw [show (List.map (fun i => [Value.int IntKind.u32 0, Value.int IntKind.u32 0][i % 2]?.getD default) (List.range 2)) = [Value.int IntKind.u32 0, Value.int IntKind.u32 0] from rfl, hst]
    simp [Result.andThen]
  · rw [List.size_toArray, List.length_append, List.length_append, List.length_take, List.length_drop, hcl, hZl]; omega
  · rw [← h4]
    show ((cur.toList.take (n * 2) ++ Z ++ cur.toList.drop (n * 2 + 2))).take (n * 2) = _
    rw [List.append_assoc, List.take_append_of_le_length (by rw [List.length_take, hcl]; omega), List.take_take, Nat.min_self]
theorem step_append_run {P : Program} {ops : Array Oper} {o : Oper} {a : Act} {w : World} {K : Act → World → Prop} {Q : Exit → Act → World → Prop} {E : Prop}
    (hg : o.guard = none) (s x : Operand) (t : TypeId) (hop : o.op = Op.call { callee := Callee.builtin Builtin.append, args := #[s, x], argTypes := #[t, t] })
    (vs vx v : Value) (w' : World) (hs : a.eval s = vs) (hx : a.eval x = vx) (hrun : (Builtin.append_ #[t, t] o.type #[vs, vx]).run P w = .ok v w') (hK : K (a.put o.dst v) w') :
    if Region.wanted o (yielded ops a.tmps) = true then Oper.wp P o a w K Q else E := by
  have hw : Region.wanted o (yielded ops a.tmps) = true := by simp [Region.wanted, hg]
  rw [if_pos hw]
  unfold Oper.wp
  simp [execOp, hop, resolve, invoke, builtin, hs, hx, hrun, Result.andThen]
  exact hK
theorem own_news {W : World} {base b n c : Nat} {xs : List Value} (h : W.ownsRow base 136 2 (.slice (some ⟨b, 0, none⟩) n c) n xs) (k : Nat) : ∀ j u, (xs.drop k)[j]? = some u → W.cell? ((⟨b, k, none⟩ : Addr).add j) = some u := by
  intro j u hu
  rw [List.getElem?_drop] at hu
  have hl := (List.getElem?_eq_some_iff.1 hu).1
  have hx := h.1
  rw [show ((⟨b, k, none⟩ : Addr).add j) = ⟨b, k + j, none⟩ from by unfold Addr.add; by_cases hi : j = 0 <;> simp [hi], h.cellAt (k + j) (by omega), hu]
set_option maxRecDepth 100000 in
theorem del_call (w : World) (base b n c i : Nat) (ps : List (Int × Int)) (h : w.ownsRow base 136 2 (.slice (some ⟨b, 0, none⟩) n c) n (cells2 ps)) (hi : i < n) (hn : n ≤ 8) :
    Calls Try.prog 79 #[.slice (some ⟨b, 0, none⟩) n c, .int .i64 i, .int .i64 ((i : Int) + 1)] w fun e w' =>
      e = .returned (.slice (some ⟨b, 0, none⟩) (n - 1) c) ∧ w'.ownsRow base 136 2 (.slice (some ⟨b, 0, none⟩) (n - 1) c) (n - 1) (cells2 (ps.take i ++ ps.drop (i + 1))) ∧ w.grownBy w' (some b) := by
  have hnc : n ≤ c := own_cap h
  have hcm : c ≤ maxLen := by
    rcases h.2 with ⟨hv, _⟩ | ⟨b', c', cur, hv, h0, hh, h1, h2, h3, h4⟩
    · simp at hv
    · simp only [Value.slice.injEq] at hv
      omega
  unfold maxLen at hcm
  obtain ⟨i0, hii, hzz⟩ := Option.map_eq_some_iff.1 infoS
  simp only [Prod.mk.injEq] at hzz
  obtain ⟨hz0, hz1, hz2⟩ := hzz
  have hd : w.drew.ownsRow base 136 2 (.slice (some ⟨b, 0, none⟩) n c) n (cells2 ps) := h
  have hpl : ps.length = n := by have := h.1; rw [cells2_length] at this; omega
  obtain ⟨AD, hAD, hnews⟩ : ∃ AD : Addr, (if c = i + 1 then (some ⟨b, 0, none⟩ : Option Addr) else some ⟨b, (i + 1) * 2, none⟩) = some AD ∧ ∀ j u, (cells2 (ps.drop (i + 1)))[j]? = some u → w.drew.cell? (AD.add j) = some u := by
    by_cases hc : c = i + 1
    · refine ⟨_, by rw [if_pos hc], fun j u hu => ?_⟩
      rw [List.drop_eq_nil_of_le (by omega)] at hu
      simp [cells2] at hu
    · refine ⟨_, by rw [if_neg hc], fun j u hu => ?_⟩
      rw [← cells2_drop] at hu
      exact own_news hd ((i + 1) * 2) j u hu
  obtain ⟨W1, r1, r2, r3⟩ := run_append_fits (P := Try.prog) (w := w.drew) base 130 130 136 i0 2 Try.underlying130 hii hz1 b i c ((cells2 ps).take (i * 2)) (own_pre hd i (by omega)) AD (n - (i + 1)) (c - (i + 1)) (cells2 (ps.drop (i + 1)))
    (by rw [cells2_length, List.length_drop, hpl]) hnews (cells2_one _) (by omega)
  rw [show i + (n - (i + 1)) = n - 1 from by omega] at r1 r2
  rw [cells2_take, ← cells2_append] at r2
  obtain ⟨W2, s1, s2, s3⟩ := clear_run W1 base b (n - 1) c (c - (n - 1)) 0 _ r2 (by omega)
  have S2 := Aside0.mk s2
  have S3 := Aside0.mk (World.grownBy.trans r3 s3)
  have R1 := Aside0.mk r1
  have HAD := Aside0.mk hAD
  clear h hd r1 r2 r3 s2 s3 hnews hz0 hz1 hz2 hii hAD
  have hic : i ≤ c := by omega
  have hj0 : (0 : Int) ≤ (i : Int) + 1 := by omega
  have hj1 : (i : Int) + 1 ≤ (n : Int) := by omega
  have hic1 : i + 1 ≤ c := by omega
  have hin1 : i + 1 ≤ n := hi
  go_enter Try.func79, Try.ntmps79
  go_wp2
  go_region_law (refine step_append_run rfl (.tmp 22) (.tmp 25) 130 rfl _ _ _ _ (by simp [Act.eval, Act.put]) (by simp [Act.eval, Act.put, HAD.out]) R1.out ?_)
  have hn1 : ((n - 1 : Nat) : Int) ≤ (n : Int) := by omega
  have hn2 : (n : Int) ≤ (c : Int) := by omega
  have hn3 : n - (n - 1) = 1 := by omega
  have hn4 : ¬ c = n - 1 := by omega
  go_wp2
  all_goals (go_ret; refine ⟨rfl, ?_, ⟨S3.out.os, S3.out.tape, S3.out.output, S3.out.size, S3.out.block⟩⟩; first | exact S2.out | (have s_ := S2.out; rw [show c = i + 1 from by assumption] at s_; exact s_))
end Go.Proofs.Ytiogbgjeimdgmaa.TlbWalk
/- The translation buffer's functions of layer 4, walked: Get, Clear, Drop, Put. -/
namespace Go.Proofs.Ytiogbgjeimdgmaa.TlbWalk
open Go.RowKit Go.Proofs.Ytiogbgjeimdgmaa.Aid Go.Proofs.YtiogbgjeimdgmaaW.PrintWords Go.Proofs.YtiogbgjeimdgmaaW.PrintLast Go.Proofs.YtiogbgjeimdgmaaW.PrintMore
attribute [local go_sem] max2_int min2_int max_two min_two max_three min_three max_four min_four   -- for this text's walks alone
set_option linter.unusedVariables false
set_option linter.unusedSimpArgs false
/-- Of what was there, blocks g and row alone may have turned. -/
structure Kept2 (w w' : World) (g : Nat) (row : Option Nat) : Prop where
  os : w'.os = w.os
  tape : w'.tape = w.tape
  output : w'.output = w.output
  size : w.heap.size ≤ w'.heap.size
  block : ∀ k, k < w.heap.size → k ≠ g → some k ≠ row → w'.heap[k]? = w.heap[k]?
theorem Kept2.of_below {w w' : World} (h : Below w.heap.size w w') (g : Nat) (row : Option Nat) : Kept2 w w' g row := ⟨h.os, h.tape, h.output, h.size, fun k hk _ _ => h.block k hk⟩
theorem Kept2.grown {w w1 w2 : World} {g : Nat} {row row' : Option Nat} (h : Kept2 w w1 g row) (k : w1.grownBy w2 row') (hr : row' = row ∨ ∀ b, row' = some b → w.heap.size ≤ b) : Kept2 w w2 g row := by
  refine ⟨k.os.trans h.os, k.tape.trans h.tape, k.output.trans h.output, Nat.le_trans h.size k.size, fun i hi h1 h2 => (k.block i (Nat.lt_of_lt_of_le hi h.size) ?_).trans (h.block i hi h1 h2)⟩
  rcases hr with rfl | hr
  · exact h2
  · intro e
    have := hr i e.symm
    omega
theorem Kept2.set {w w1 : World} {g : Nat} {row : Option Nat} (h : Kept2 w w1 g row) (j : Nat) (u : Value) : Kept2 w (w1.setCell ⟨g, j, none⟩ u) g row :=
  ⟨h.os, h.tape, h.output, by simpa [World.setCell] using h.size, fun i hi h1 h2 => (Below.heap_setCell w1 ⟨g, j, none⟩ u i h1).trans (h.block i hi h1 h2)⟩
theorem Kept2.then {w w1 w2 : World} {g : Nat} {row : Option Nat} (h : Kept2 w w1 g row) (k : Below w1.heap.size w1 w2) : Kept2 w w2 g row :=
  ⟨k.os.trans h.os, k.tape.trans h.tape, k.output.trans h.output, Nat.le_trans h.size k.size, fun i hi h1 h2 => (k.block i (Nat.lt_of_lt_of_le hi h.size)).trans (h.block i hi h1 h2)⟩
theorem Kept2.below {w0 w w' : World} {g : Nat} {row : Option Nat} (h : Kept2 w w' g row) (b : Below w0.heap.size w0 w) (hg : w0.heap.size ≤ g) (hr : ∀ k, row = some k → w0.heap.size ≤ k) : Below w0.heap.size w0 w' :=
  ⟨h.os.trans b.os, h.tape.trans b.tape, h.output.trans b.output, Nat.le_trans b.size h.size, fun i hi => (h.block i (Nat.lt_of_lt_of_le hi b.size) (by omega) (fun e => by have := hr i e.symm; omega)).trans (b.block i hi)⟩
theorem TlbAt.row {W : World} {base g : Nat} {v : Value} {ps : List (Int × Int)} (h : TlbAt W base g v ps) : ∀ k, v.ownBlock = some k → base ≤ k ∧ k < W.heap.size ∧ k ≠ g := by
  intro k hk
  rcases h.2.2.1.2 with ⟨rfl, _⟩ | ⟨b, c, cur, rfl, hb, hh, _⟩
  · simp [Value.ownBlock] at hk
  · simp only [Value.ownBlock, Option.some.injEq] at hk
    subst hk
    refine ⟨hb, (Array.getElem?_eq_some_iff.1 hh).1, ?_⟩
    rintro rfl
    rw [h.1] at hh
    simp at hh
/-- Another buffer stays. -/
theorem TlbAt.other {w w' : World} {base base' g g' : Nat} {v v' : Value} {ps ps' : List (Int × Int)} (h' : TlbAt w base' g' v' ps') (h : TlbAt w base g v ps) (k : Kept2 w w' g v.ownBlock) (hne : g' ≠ g) (hr : NeRow v v') : TlbAt w' base' g' v' ps' := by
  have hcross : ∀ b, v.ownBlock = some b → g' ≠ b := by
    rintro b hb rfl
    rcases h.2.2.1.2 with ⟨rfl, _⟩ | ⟨b', c, cur, rfl, _, hh, _⟩
    · simp [Value.ownBlock] at hb
    · simp only [Value.ownBlock, Option.some.injEq] at hb
      subst hb
      rw [h'.1] at hh
      simp at hh
  refine ⟨(k.block g' h'.lt hne (fun e => hcross g' e.symm rfl)).trans h'.1, h'.2.1, ?_, h'.2.2.2⟩
  obtain ⟨o1, o2⟩ := h'.2.2.1
  refine ⟨o1, ?_⟩
  rcases o2 with o2 | ⟨b, c, cur, rfl, hb, hh, r⟩
  · exact .inl o2
  · refine .inr ⟨b, c, cur, rfl, hb, ?_, r⟩
    have hbg : b ≠ g := by
      rintro rfl
      rw [h.1] at hh
      simp at hh
    exact (k.block b (Array.getElem?_eq_some_iff.1 hh).1 hbg (fun e => hr b e.symm rfl)).trans hh
/-- The field is stored. -/
theorem tlb_store {W : World} {base g n : Nat} {v v' : Value} {ps : List (Int × Int)} (h : W.heap[g]? = some (.cells #[v] 132 (0, 0))) (hb : base ≤ g) (ho : W.ownsRow base 136 2 v' n (cells2 ps)) (hn : n = ps.length) (h8 : n ≤ 8) (hne : v'.ownBlock ≠ some g) : TlbAt (W.setCell ⟨g, 0, none⟩ v') base g v' ps := by
  subst hn
  exact ⟨blk_put h 0 v' rfl, hb, ownsRow_setCell_other ho hne _, h8⟩
/-- What Put makes of the slots. -/
def putP (page entry : Int) (ps : List (Int × Int)) : List (Int × Int) :=
  if posP page ps < ps.length then ps.set (posP page ps) (page, entry) else (if ps.length = 8 then ps.drop 1 else ps) ++ [(page, entry)]
def dropP (page : Int) (ps : List (Int × Int)) : List (Int × Int) := if posP page ps < ps.length then ps.take (posP page ps) ++ ps.drop (posP page ps + 1) else ps
theorem cells2_set : ∀ (ps : List (Int × Int)) (k : Nat) (e : Int), k < ps.length → (cells2 ps).set (k * 2 + 1) (.int .u32 e) = cells2 (ps.set k ((ps.getD k nil2).1, e))
  | [], _, _, h => absurd h (Nat.not_lt_zero _)
  | p :: ps, 0, e, _ => rfl
  | p :: ps, k + 1, e, h => by
    rw [cells2_cons, show (k + 1) * 2 + 1 = k * 2 + 1 + 1 + 1 from by omega, List.set_cons_succ, List.set_cons_succ, cells2_set ps k e (by simpa using h), List.set_cons_succ, List.getD_cons_succ, cells2_cons]
theorem TlbAt.own {W : World} {base g : Nat} {v : Value} {ps : List (Int × Int)} (h : TlbAt W base g v ps) : W.ownsRow base 136 2 v ps.length (cells2 ps) := h.2.2.1
theorem TlbAt.blk {W : World} {base g : Nat} {v : Value} {ps : List (Int × Int)} (h : TlbAt W base g v ps) : W.heap[g]? = some (.cells #[v] 132 (0, 0)) := h.1
theorem TlbAt.val {W : World} {base g : Nat} {v : Value} {ps : List (Int × Int)} (h : TlbAt W base g v ps) : ∃ A c, v = .slice A ps.length c := by
  rcases h.shape with ⟨rfl, rfl⟩ | ⟨b, c, rfl, _⟩
  · exact ⟨none, 0, rfl⟩
  · exact ⟨_, c, rfl⟩
theorem at_yes (w : World) (base g : Nat) (v : Value) (ps : List (Int × Int)) (page : Int) (h : TlbAt w base g v ps) (hp : posP page ps < ps.length) :
    Calls Try.prog 78 #[.pointer (some ⟨g, 0, none⟩), .int .u32 page] w fun e w' => e = .returned (.int .i64 (posP page ps)) ∧ Below w.heap.size w w' := by
  have := at_call w base g v ps page h
  unfold atI at this
  rwa [if_pos hp] at this
theorem at_no (w : World) (base g : Nat) (v : Value) (ps : List (Int × Int)) (page : Int) (h : TlbAt w base g v ps) (hp : ¬ posP page ps < ps.length) :
    Calls Try.prog 78 #[.pointer (some ⟨g, 0, none⟩), .int .u32 page] w fun e w' => e = .returned (.int .i64 (-1)) ∧ Below w.heap.size w w' := by
  have := at_call w base g v ps page h
  unfold atI at this
  rwa [if_neg hp] at this

theorem get_yes (w : World) (base g : Nat) (v : Value) (ps : List (Int × Int)) (page : Int) (h : TlbAt w base g v ps) (hp : posP page ps < ps.length) :
    Calls Try.prog 84 #[.pointer (some ⟨g, 0, none⟩), .int .u32 page] w fun e w' => e = .returned (.tuple #[.int .u32 (ps.getD (posP page ps) nil2).2, .bool true]) ∧ Below w.heap.size w w' := by
  have A := Aside0.mk (at_yes w base g v ps page h hp)
  obtain ⟨b, c, rfl, hc, hm, hb0, hbl⟩ : ∃ b c, v = .slice (some ⟨b, 0, none⟩) ps.length c ∧ ps.length ≤ c ∧ c ≤ maxLen ∧ base ≤ b ∧ b < w.heap.size := by
    rcases h.shape with ⟨rfl, rfl⟩ | h'
    · exact absurd hp (Nat.not_lt_zero _)
    · exact h'
  have H := Aside0.mk h
  generalize posP page ps = i at *
  generalize hx : (ps.getD i nil2).2 = x
  have HX := Aside0.mk hx
  clear h hx
  go_enter Try.func84, Try.ntmps84
  go_wp2_with (first | (go_at_call 78; (with_reducible refine (A.out).mono ?_); rintro e w1 ⟨rfl, hb⟩; have B := Aside0.mk hb; have H1 := Aside0.mk (H.out.then hb); have hf := H1.out.field; have hx1 := (H1.out.cells i hp).2; rw [HX.out] at hx1; clear hb))
  go_ret2
  exact ⟨rfl, B.out⟩
theorem get_no (w : World) (base g : Nat) (v : Value) (ps : List (Int × Int)) (page : Int) (h : TlbAt w base g v ps) (hp : ¬ posP page ps < ps.length) :
    Calls Try.prog 84 #[.pointer (some ⟨g, 0, none⟩), .int .u32 page] w fun e w' => e = .returned (.tuple #[.int .u32 0, .bool false]) ∧ Below w.heap.size w w' := by
  have A := Aside0.mk (at_no w base g v ps page h hp)
  clear h
  go_enter Try.func84, Try.ntmps84
  go_wp2_with (first | (go_at_call 78; (with_reducible refine (A.out).mono ?_); rintro e w1 ⟨rfl, hb⟩; have B := Aside0.mk hb; clear hb))
  go_ret2
  exact ⟨rfl, B.out⟩

theorem clear_call (w : World) (base g : Nat) (v : Value) (ps : List (Int × Int)) (h : TlbAt w base g v ps) :
    Calls Try.prog 57 #[.pointer (some ⟨g, 0, none⟩)] w fun e w' => e = .returned (.tuple #[]) ∧ TlbAt w' base g (.slice none 0 0) [] ∧ Kept2 w w' g v.ownBlock := by
  have hf := h.field
  have hfr := h.free
  have H := Aside0.mk h
  clear h
  go_enter Try.func57, Try.ntmps57
  go_wp2
  go_end0
  exact ⟨rfl, tlb_store (n := 0) H.out.1 H.out.2.1 (World.ownsRow_nil _ _ _ _) rfl (by decide) (by simp [Value.ownBlock]), (Kept2.of_below (Below.refl _ _) _ _).set _ _⟩

theorem drop_no (w : World) (base g : Nat) (v : Value) (ps : List (Int × Int)) (page : Int) (h : TlbAt w base g v ps) (hp : ¬ posP page ps < ps.length) :
    Calls Try.prog 65 #[.pointer (some ⟨g, 0, none⟩), .int .u32 page] w fun e w' => e = .returned (.tuple #[]) ∧ Below w.heap.size w w' := by
  have A := Aside0.mk (at_no w base g v ps page h hp)
  clear h
  go_enter Try.func65, Try.ntmps65
  go_wp2_with (first | (go_at_call 78; (with_reducible refine (A.out).mono ?_); rintro e w1 ⟨rfl, hb⟩; have B := Aside0.mk hb; clear hb))
  go_end0
  exact ⟨rfl, B.out⟩
theorem drop_yes (w : World) (base g : Nat) (v : Value) (ps : List (Int × Int)) (page : Int) (h : TlbAt w base g v ps) (hp : posP page ps < ps.length) :
    Calls Try.prog 65 #[.pointer (some ⟨g, 0, none⟩), .int .u32 page] w fun e w' => e = .returned (.tuple #[]) ∧ ∃ v', TlbAt w' base g v' (ps.take (posP page ps) ++ ps.drop (posP page ps + 1)) ∧ Kept2 w w' g v.ownBlock ∧ v'.ownBlock = v.ownBlock := by
  have A := Aside0.mk (at_yes w base g v ps page h hp)
  obtain ⟨b, c, rfl, hc, hm, hb0, hbl⟩ : ∃ b c, v = .slice (some ⟨b, 0, none⟩) ps.length c ∧ ps.length ≤ c ∧ c ≤ maxLen ∧ base ≤ b ∧ b < w.heap.size := by
    rcases h.shape with ⟨rfl, rfl⟩ | h'
    · exact absurd hp (Nat.not_lt_zero _)
    · exact h'
  have H := Aside0.mk h
  have hl8 := h.2.2.2
  generalize posP page ps = i at *
  have D := Aside0.mk (fun (w : World) (hw : w.ownsRow base 136 2 (.slice (some ⟨b, 0, none⟩) ps.length c) ps.length (cells2 ps)) => del_call w base b ps.length c i ps hw hp hl8)
  clear h
  go_enter Try.func65, Try.ntmps65
  go_wp2_with (first
    | (go_at_call 78; (with_reducible refine (A.out).mono ?_); rintro e w1 ⟨rfl, hb⟩; have B := Aside0.mk hb; have H1 := Aside0.mk (H.out.then hb); have hf := H1.out.field; clear hb)
    | (go_at_call 79; (with_reducible refine (D.out _ H1.out.own).mono ?_); rintro e w2 ⟨rfl, ho, hg⟩; have hgb := (H1.out.row b rfl).2.2; have hblk := (hg.block g H1.out.lt (by simp; omega)).trans H1.out.1; have hf2 := cell_of_row w2 g 0 _ _ _ hblk; have hfr2 := frozen_of_row w2 g 0 _ _ hblk; have HB2 := Aside0.mk hblk; have HO2 := Aside0.mk ho; have HG2 := Aside0.mk hg; have HGB := Aside0.mk hgb; clear hblk ho hg hgb))
  go_end0
  refine ⟨rfl, _, tlb_store HB2.out H.out.2.1 HO2.out (by rw [List.length_append, List.length_take, List.length_drop]; omega) (by omega) (by have := HGB.out; simp [Value.ownBlock]; omega), ((Kept2.of_below B.out _ _).grown HG2.out (.inl rfl)).set _ _, rfl⟩
end Go.Proofs.Ytiogbgjeimdgmaa.TlbWalk
/- The translation buffer's functions of layer 4, walked: Put, Pages. -/
namespace Go.Proofs.Ytiogbgjeimdgmaa.TlbWalk
open Go.RowKit Go.Proofs.Ytiogbgjeimdgmaa.Aid Go.Proofs.YtiogbgjeimdgmaaW.PrintWords Go.Proofs.YtiogbgjeimdgmaaW.PrintLast Go.Proofs.YtiogbgjeimdgmaaW.PrintMore
attribute [local go_sem] max2_int min2_int max_two min_two max_three min_three max_four min_four   -- for this text's walks alone
set_option linter.unusedVariables false
set_option linter.unusedSimpArgs false

theorem put_yes (w : World) (base g : Nat) (v : Value) (ps : List (Int × Int)) (page entry : Int) (h : TlbAt w base g v ps) (hp : posP page ps < ps.length) :
    Calls Try.prog 86 #[.pointer (some ⟨g, 0, none⟩), .int .u32 page, .int .u32 entry] w fun e w' => e = .returned (.tuple #[]) ∧ TlbAt w' base g v (putP page entry ps) ∧ Kept2 w w' g v.ownBlock := by
  have A := Aside0.mk (at_yes w base g v ps page h hp)
  obtain ⟨b, c, rfl, hc, hm, hb0, hbl⟩ : ∃ b c, v = .slice (some ⟨b, 0, none⟩) ps.length c ∧ ps.length ≤ c ∧ c ≤ maxLen ∧ base ≤ b ∧ b < w.heap.size := by
    rcases h.shape with ⟨rfl, rfl⟩ | h'
    · exact absurd hp (Nat.not_lt_zero _)
    · exact h'
  have H := Aside0.mk h
  have hl8 := h.2.2.2
  have hpp : putP page entry ps = ps.set (posP page ps) ((ps.getD (posP page ps) nil2).1, entry) := by
    unfold putP
    rw [if_pos hp, posP_page page ps hp]
  have HPP := Aside0.mk hpp
  clear hpp
  generalize posP page ps = i at *
  clear h
  go_enter Try.func86, Try.ntmps86
  go_wp2_with (first
    | (go_at_call 78; (with_reducible refine (A.out).mono ?_); rintro e w1 ⟨rfl, hb⟩; have B := Aside0.mk hb; have H1 := Aside0.mk (H.out.then hb); have hf := H1.out.field; have hx1 := (H1.out.cells i hp).2; have hfr := H1.out.own.frozenAt (i * 2 + 1); clear hb))
  go_end0
  have hs := H1.out.own.stored (i * 2 + 1) (.int .u32 entry)
  rw [cells2_set ps i entry hp, ← HPP.out] at hs
  have hlen : (putP page entry ps).length = ps.length := by rw [HPP.out, List.length_set]
  refine ⟨rfl, ⟨(hs.2.block g H1.out.lt (by have := (H1.out.row b rfl).2.2; simp; omega)).trans H1.out.blk, H.out.2.1, by rw [hlen]; exact hs.1, by omega⟩, ?_⟩
  exact (Kept2.of_below B.out _ _).grown hs.2 (.inl rfl)

theorem own_some {W : World} {base e s n : Nat} {v : Value} {xs : List Value} (h : W.ownsRow base e s v (n + 1) xs) : ∃ b c, v = .slice (some ⟨b, 0, none⟩) (n + 1) c := by
  rcases h.2 with ⟨_, h0⟩ | ⟨b, c, cur, rfl, _⟩
  · omega
  · exact ⟨b, c, rfl⟩
theorem TlbAt.ne {W : World} {base g : Nat} {v : Value} {ps : List (Int × Int)} (h : TlbAt W base g v ps) : some g ≠ v.ownBlock := fun e => (h.row g e.symm).2.2 rfl
theorem put_add (w : World) (base g : Nat) (v : Value) (ps : List (Int × Int)) (page entry : Int) (h : TlbAt w base g v ps) (hp : ¬ posP page ps < ps.length) (h8 : ¬ ps.length = 8) :
    Calls Try.prog 86 #[.pointer (some ⟨g, 0, none⟩), .int .u32 page, .int .u32 entry] w fun e w' => e = .returned (.tuple #[]) ∧ ∃ v', TlbAt w' base g v' (putP page entry ps) ∧ Kept2 w w' g v.ownBlock ∧ (v'.ownBlock = v.ownBlock ∨ ∃ b, v'.ownBlock = some b ∧ w.heap.size ≤ b) := by
  have A := Aside0.mk (at_no w base g v ps page h hp)
  obtain ⟨A0, c, hv⟩ := h.val
  have HV := Aside0.mk hv
  have H := Aside0.mk h
  have hl8 := h.2.2.2
  have hpp : putP page entry ps = ps ++ [(page, entry)] := by
    unfold putP
    rw [if_neg hp, if_neg h8]
  have HPP := Aside0.mk hpp
  have h8' : ((ps.length : Int) == 8) = false := beq_eq_false_iff_ne.mpr (by omega)
  clear hpp h hv
  go_enter Try.func86, Try.ntmps86
  go_wp2_with (first
    | (go_at_call 78; (with_reducible refine (A.out).mono ?_); rintro e w1 ⟨rfl, hb⟩; have B := Aside0.mk hb; have H1 := Aside0.mk (H.out.then hb); have hf := H1.out.field; rw [HV.out] at hf; clear hb)
    | (at_builtin; refine print_append_cells (w0 := w1) (W := w1) base rfl (.tmp 28) (.tmp 32) 130 136 (.agg #[.int .u32 0, .int .u32 0]) 2 8 rfl Try.underlying130 infoS rfl (by decide) (by decide) v ps.length (cells2 ps) [.int .u32 page, .int .u32 entry] HV.out.symm rfl rfl (by simp [Value.oneCell']) H1.out.own (Below.refl _ _) (by have := H1.out.lt; have := H1.out.2.1; omega) (by omega) ?_; intro v1 w2 ho hb hg hat; obtain ⟨b1, c1, rfl⟩ := own_some ho; have hblk := (hg.block g H1.out.lt H1.out.ne).trans H1.out.blk; have hf2 := cell_of_row w2 g 0 _ _ _ hblk; have hfr2 := frozen_of_row w2 g 0 _ _ hblk; have HB2 := Aside0.mk hblk; have HO2 := Aside0.mk ho; have HG2 := Aside0.mk hg; have HAT := Aside0.mk hat; clear hblk ho hb hg hat))
  go_end0
  have hne : (Value.slice (some ⟨b1, 0, none⟩) (ps.length + 1) c1).ownBlock ≠ some g := by
    rcases HAT.out with e | ⟨b, e, hb⟩
    · rw [e]; exact fun q => H1.out.ne q.symm
    · rw [e]
      have := H1.out.lt
      intro q
      simp only [Option.some.injEq] at q
      omega
  have hcat : cells2 ps ++ [.int .u32 page, .int .u32 entry] = cells2 (putP page entry ps) := by rw [HPP.out, cells2_append]; rfl
  have ho := HO2.out
  rw [hcat] at ho
  refine ⟨rfl, _, tlb_store HB2.out H.out.2.1 ho (by rw [HPP.out, List.length_append]; rfl) (by omega) hne, ((Kept2.of_below B.out _ _).grown HG2.out (.inl rfl)).set _ _, ?_⟩
  rcases HAT.out with e | ⟨b, e, hb⟩
  · exact .inl e
  · exact .inr ⟨b, e, Nat.le_trans B.out.size hb⟩
theorem TlbAt.own_n {W : World} {base g b n c : Nat} {ps : List (Int × Int)} (h : TlbAt W base g (.slice (some ⟨b, 0, none⟩) n c) ps) : W.ownsRow base 136 2 (.slice (some ⟨b, 0, none⟩) n c) n (cells2 ps) := by
  have ho := h.own
  have hn : n = ps.length := by
    rcases ho.2 with ⟨hv, _⟩ | ⟨b', c', cur, hv, _⟩
    · simp at hv
    · simp only [Value.slice.injEq] at hv
      exact hv.2.1
  rw [← hn] at ho
  exact ho
theorem del8 (w : World) (base b c : Nat) (ps : List (Int × Int)) (h : w.ownsRow base 136 2 (.slice (some ⟨b, 0, none⟩) 8 c) 8 (cells2 ps)) :
    Calls Try.prog 79 #[.slice (some ⟨b, 0, none⟩) 8 c, .int .i64 0, .int .i64 1] w fun e w' =>
      e = .returned (.slice (some ⟨b, 0, none⟩) 7 c) ∧ w'.ownsRow base 136 2 (.slice (some ⟨b, 0, none⟩) 7 c) 7 (cells2 (ps.drop 1)) ∧ w.grownBy w' (some b) :=
  del_call w base b 8 c 0 ps h (by decide) (by decide)
theorem put_full (w : World) (base g : Nat) (v : Value) (ps : List (Int × Int)) (page entry : Int) (h : TlbAt w base g v ps) (hp : ¬ posP page ps < ps.length) (h8 : ps.length = 8) :
    Calls Try.prog 86 #[.pointer (some ⟨g, 0, none⟩), .int .u32 page, .int .u32 entry] w fun e w' => e = .returned (.tuple #[]) ∧ ∃ v', TlbAt w' base g v' (putP page entry ps) ∧ Kept2 w w' g v.ownBlock ∧ (v'.ownBlock = v.ownBlock ∨ ∃ b, v'.ownBlock = some b ∧ w.heap.size ≤ b) := by
  have A := Aside0.mk (at_no w base g v ps page h hp)
  obtain ⟨b, c, rfl, hc, hm, hb0, hbl⟩ : ∃ b c, v = .slice (some ⟨b, 0, none⟩) ps.length c ∧ ps.length ≤ c ∧ c ≤ maxLen ∧ base ≤ b ∧ b < w.heap.size := by
    rcases h.shape with ⟨rfl, rfl⟩ | h'
    · exact absurd h8 (by decide)
    · exact h'
  rw [h8] at h
  have H := Aside0.mk h
  have hpp : putP page entry ps = ps.drop 1 ++ [(page, entry)] := by
    unfold putP
    rw [if_neg hp, if_pos h8]
  have HPP := Aside0.mk hpp
  have HL := Aside0.mk h8
  rw [h8] at hc ⊢
  clear hpp h hp h8
  go_enter Try.func86, Try.ntmps86
  go_wp2_with (first
    | (go_at_call 78; (with_reducible refine (A.out).mono ?_); rintro e w1 ⟨rfl, hb⟩; have B := Aside0.mk hb; have H1 := Aside0.mk (H.out.then hb); have hf := H1.out.field; clear hb)
    | (go_at_call 79; (with_reducible refine (del8 _ _ _ _ _ H1.out.own_n).mono ?_); rintro e w2 ⟨rfl, ho, hg⟩; have hgb := (H1.out.row b rfl).2.2; have hblk := (hg.block g H1.out.lt (by simp; omega)).trans H1.out.blk; have hf2 := cell_of_row w2 g 0 _ _ _ hblk; have hfr2 := frozen_of_row w2 g 0 _ _ hblk; have HB2 := Aside0.mk hblk; have HO2 := Aside0.mk ho; have HG2 := Aside0.mk hg; have HGB := Aside0.mk hgb; have hbs := Aside0.mk (Below.refl w2.heap.size w2); clear hblk ho hg hgb)
    | (at_builtin; refine print_append_cells (w0 := w2.setCell ⟨g, 0, none⟩ (.slice (some ⟨b, 0, none⟩) 7 c)) (W := w2.setCell ⟨g, 0, none⟩ (.slice (some ⟨b, 0, none⟩) 7 c)) base rfl (.tmp 28) (.tmp 32) 130 136 (.agg #[.int .u32 0, .int .u32 0]) 2 8 rfl Try.underlying130 infoS rfl (by decide) (by decide) (.slice (some ⟨b, 0, none⟩) 7 c) 7 (cells2 (ps.drop 1)) [.int .u32 page, .int .u32 entry] rfl (by simp [World.setCell, Act.eval]) rfl (by simp [Value.oneCell']) (ownsRow_setCell_other HO2.out (by have := HGB.out; simp [Value.ownBlock]; omega) _) (Below.refl _ _) (by have := HG2.out.size; have := H1.out.lt; have := H.out.2.1; simp [World.setCell]; omega) (by omega) ?_; intro v1 w3 ho hb hg hat; obtain ⟨b1, c1, rfl⟩ := own_some ho; have hblk := (hg.block g (by have := HG2.out.size; have := H1.out.lt; simp [World.setCell]; omega) (by have := HGB.out; simp [Value.ownBlock]; omega)).trans (blk_put HB2.out 0 (.slice (some ⟨b, 0, none⟩) 7 c) rfl); have hf3 := cell_of_row w3 g 0 _ _ _ hblk; have hfr3 := frozen_of_row w3 g 0 _ _ hblk; have HB3 := Aside0.mk hblk; have HO3 := Aside0.mk ho; have HG3 := Aside0.mk hg; have HAT := Aside0.mk hat; clear hblk ho hb hg hat))
  go_end0
  have hne : (Value.slice (some ⟨b1, 0, none⟩) (7 + 1) c1).ownBlock ≠ some g := by
    rcases HAT.out with e | ⟨b', e, hb⟩
    · rw [e]; have := HGB.out; simp [Value.ownBlock]; omega
    · rw [e]
      have := HG2.out.size
      have := H1.out.lt
      simp [World.setCell] at hb
      intro q
      simp only [Option.some.injEq] at q
      omega
  have hcat : cells2 (ps.drop 1) ++ [.int .u32 page, .int .u32 entry] = cells2 (putP page entry ps) := by rw [HPP.out, cells2_append]; rfl
  have ho := HO3.out
  rw [hcat] at ho
  have hlen := HL.out
  refine ⟨rfl, _, tlb_store HB3.out H.out.2.1 ho (by rw [HPP.out, List.length_append, List.length_drop, hlen]; rfl) (by omega) hne, ((((Kept2.of_below B.out _ _).grown HG2.out (.inl rfl)).set _ _).grown HG3.out (.inl rfl)).set _ _, ?_⟩
  rcases HAT.out with e | ⟨b', e, hb⟩
  · exact .inl e
  · refine .inr ⟨b', e, Nat.le_trans B.out.size (Nat.le_trans HG2.out.size ?_)⟩
    simpa [World.setCell] using hb
end Go.Proofs.Ytiogbgjeimdgmaa.TlbWalk
/- The translation buffer's functions of layer 4, walked: Pages; alive. -/
namespace Go.Proofs.Ytiogbgjeimdgmaa.TlbWalk
open Go.RowKit Go.Proofs.Ytiogbgjeimdgmaa.Aid Go.Proofs.YtiogbgjeimdgmaaW.PrintWords Go.Proofs.YtiogbgjeimdgmaaW.PrintLast Go.Proofs.YtiogbgjeimdgmaaW.PrintMore
attribute [local go_sem] max2_int min2_int max_two min_two max_three min_three max_four min_four   -- for this text's walks alone
set_option linter.unusedVariables false
set_option linter.unusedSimpArgs false

theorem info22 : (Try.prog.info? 23).map (fun i => (i.zero, i.size, i.bytes)) = some (some (.int .u32 0), 1, 4) := by kernel_rfl
theorem own_val {W : World} {base e s n : Nat} {v : Value} {xs : List Value} (h : W.ownsRow base e s v n xs) : ∃ A c, v = .slice A n c := by
  rcases h.2 with ⟨rfl, rfl⟩ | ⟨b, c, cur, rfl, _⟩
  · exact ⟨none, 0, rfl⟩
  · exact ⟨_, c, rfl⟩
theorem take_next (ps : List (Int × Int)) (k : Nat) (hk : k < ps.length) : ps.take (k + 1) = ps.take k ++ [ps.getD k nil2] := by
  rw [List.take_add_one, List.getElem?_eq_getElem hk, List.getD_eq_getElem?_getD, List.getElem?_eq_getElem hk]
  rfl
theorem pages_call (w : World) (base g : Nat) (v : Value) (ps : List (Int × Int)) (h : TlbAt w base g v ps) :
    Calls Try.prog 67 #[.pointer (some ⟨g, 0, none⟩)] w fun e w' => ∃ A c, e = .returned (.slice A ps.length c) ∧ w'.ownsRow w.heap.size 23 1 (.slice A ps.length c) ps.length (nums .u32 (ps.map Prod.fst)) ∧ Below w.heap.size w w' := by
  obtain ⟨A0, c, hv⟩ := h.val
  have hf := h.field
  have H := Aside0.mk h
  have hl8 := h.2.2.2
  have HA : Aside0 (0 < ps.length → ∃ b, A0 = some ⟨b, 0, none⟩ ∧ b < w.heap.size ∧ ∀ k, k < ps.length → w.cell? ⟨b, k * 2, none⟩ = some (.int .u32 (ps.getD k nil2).1) ∧ w.cell? ⟨b, k * 2 + 1, none⟩ = some (.int .u32 (ps.getD k nil2).2)) := by
    refine ⟨fun q => ?_⟩
    rcases h.shape with ⟨rfl, rfl⟩ | ⟨b, c', hv', _, _, _, hb⟩
    · exact absurd q (by simp)
    · subst hv'
      simp only [Value.slice.injEq] at hv
      exact ⟨b, hv.1.symm, hb, fun k hk => h.cells k hk⟩
  rw [hv] at hf
  clear h hv
  go_enter Try.func67, Try.ntmps67
  go_wp2
  go_loopw [3, 13] (fun o i wr => ∃ k : Nat, k ≤ ps.length ∧ i = .int .i64 k ∧ Below w.heap.size w wr ∧ wr.ownsRow w.heap.size 23 1 o k (nums .u32 ((ps.take k).map Prod.fst))) (fun _ i _ => ps.length - (intOf i).toNat)
  case atStart => exact ⟨0, Nat.zero_le _, rfl, Below.refl _ _, World.ownsRow_nil _ _ _ _⟩
  case round =>
    obtain ⟨k, hk, rfl, hb, ho⟩ := hrel
    have B := Aside0.mk hb
    have O := Aside0.mk ho
    obtain ⟨A1, c1, rfl⟩ := own_val ho
    clear hb ho
    by_cases hkn : k = ps.length
    · subst hkn
      go_wp2
      go_ret
      refine ⟨_, _, rfl, ?_, B.out⟩
      have := O.out
      rwa [List.take_length] at this
    · obtain ⟨b, rfl, hbl, hc⟩ := HA.out (by omega)
      have c0 := (B.out.cell (p := ⟨b, k * 2, none⟩) hbl).trans (hc k (by omega)).1
      have c1' := (B.out.cell (p := ⟨b, k * 2 + 1, none⟩) hbl).trans (hc k (by omega)).2
      have hk' : k < ps.length := by omega
      clear hc
      generalize hy1 : (ps.getD k nil2).1 = y1 at *
      generalize (ps.getD k nil2).2 = y2 at *
      have HY1 := Aside0.mk hy1
      clear hy1
      go_wp2_with (first
        | (at_builtin; refine print_append_num (w0 := w) w.heap.size rfl (.tmp 17) (.tmp 20) 58 23 .u32 4 rfl Try.underlying58 info22 (by decide) (.slice A1 k c1) ((ps.take k).map Prod.fst) y1 rfl (by simp [Act.eval]) (by have := O.out; rw [List.length_map, List.length_take, Nat.min_eq_left (by omega)]; exact own_alloc this _) (below_alloc B.out _) (by have := B.out.size; simp; omega) (by rw [List.length_map, List.length_take]; omega) ?_; intro v1 w2 ho2 hb2 hg2 hat2; have O2 := Aside0.mk ho2; have B2 := Aside0.mk hb2; clear ho2 hb2 hg2 hat2))
      have et : (ps.take (k + 1)).map Prod.fst = (ps.take k).map Prod.fst ++ [y1] := by
        rw [take_next ps k hk', List.map_append, ← HY1.out]; rfl
      have o2 := O2.out
      rw [← et] at o2
      have hl : ((ps.take (k + 1)).map Prod.fst).length = k + 1 := by rw [List.length_map, List.length_take]; omega
      rw [hl] at o2
      go_roundw
      case rel => exact ⟨k + 1, by omega, rfl, B2.out, o2⟩
      case measure => simp [intOf]; omega
/-- Put, in one word. -/
theorem put_call (w : World) (base g : Nat) (v : Value) (ps : List (Int × Int)) (page entry : Int) (h : TlbAt w base g v ps) :
    Calls Try.prog 86 #[.pointer (some ⟨g, 0, none⟩), .int .u32 page, .int .u32 entry] w fun e w' => e = .returned (.tuple #[]) ∧ ∃ v', TlbAt w' base g v' (putP page entry ps) ∧ Kept2 w w' g v.ownBlock ∧ (v'.ownBlock = v.ownBlock ∨ ∃ b, v'.ownBlock = some b ∧ w.heap.size ≤ b) := by
  by_cases hp : posP page ps < ps.length
  · exact (put_yes w base g v ps page entry h hp).mono fun e w' ⟨h1, h2, h3⟩ => ⟨h1, v, h2, h3, .inl rfl⟩
  · by_cases h8 : ps.length = 8
    · exact put_full w base g v ps page entry h hp h8
    · exact put_add w base g v ps page entry h hp h8
theorem drop_call (w : World) (base g : Nat) (v : Value) (ps : List (Int × Int)) (page : Int) (h : TlbAt w base g v ps) :
    Calls Try.prog 65 #[.pointer (some ⟨g, 0, none⟩), .int .u32 page] w fun e w' => e = .returned (.tuple #[]) ∧ ∃ v', TlbAt w' base g v' (dropP page ps) ∧ Kept2 w w' g v.ownBlock ∧ (v'.ownBlock = v.ownBlock ∨ ∃ b, v'.ownBlock = some b ∧ w.heap.size ≤ b) := by
  unfold dropP
  by_cases hp : posP page ps < ps.length
  · rw [if_pos hp]
    exact (drop_yes w base g v ps page h hp).mono fun e w' ⟨h1, v', h2, h3, h4⟩ => ⟨h1, v', h2, h3, .inl h4⟩
  · rw [if_neg hp]
    exact (drop_no w base g v ps page h hp).mono fun e w' ⟨h1, h2⟩ => ⟨h1, v, h.then h2, Kept2.of_below h2 _ _, .inl rfl⟩
def entP (page : Int) (ps : List (Int × Int)) : Int := if posP page ps < ps.length then (ps.getD (posP page ps) nil2).2 else 0
theorem get_call (w : World) (base g : Nat) (v : Value) (ps : List (Int × Int)) (page : Int) (h : TlbAt w base g v ps) :
    Calls Try.prog 84 #[.pointer (some ⟨g, 0, none⟩), .int .u32 page] w fun e w' => e = .returned (.tuple #[.int .u32 (entP page ps), .bool (decide (posP page ps < ps.length))]) ∧ Below w.heap.size w w' := by
  unfold entP
  by_cases hp : posP page ps < ps.length
  · rw [if_pos hp, decide_eq_true hp]; exact get_yes w base g v ps page h hp
  · rw [if_neg hp, decide_eq_false hp]; exact get_no w base g v ps page h hp

end Go.Proofs.Ytiogbgjeimdgmaa.TlbWalk
/- What Put and Drop make of a buffer's pages, in plain lists; camshaftref04.Same of two lists that are one, walked. -/
namespace Go.Proofs.Ytiogbgjeimdgmaa.TlbWalk
open Go.RowKit Go.Proofs.Ytiogbgjeimdgmaa.Aid Go.Proofs.YtiogbgjeimdgmaaW.PrintWords Go.Proofs.YtiogbgjeimdgmaaW.PrintLast Go.Proofs.YtiogbgjeimdgmaaW.PrintMore
attribute [local go_sem] max2_int min2_int max_two min_two max_three min_three max_four min_four   -- for this text's walks alone
set_option linter.unusedVariables false
set_option linter.unusedSimpArgs false

theorem own_none {w : World} {base e s n : Nat} {o : Value} {xs : List Value} (_ : w.ownsRow base e s o n xs) : o.ownBlock = none ∨ o.ownBlock ≠ none := by
  cases o.ownBlock with
  | none => exact .inl rfl
  | some b => exact .inr (by simp)
theorem own_then {w w' : World} {base e s n : Nat} {o : Value} {xs : List Value} (h : w.ownsRow base e s o n xs) (hb : Below w.heap.size w w') : w'.ownsRow base e s o n xs :=
  own_other h (row := none) ⟨hb.os, hb.tape, hb.output, hb.size, fun k hk _ => hb.block k hk⟩ (own_none h)
theorem mem_getD (ps : List (Int × Int)) (j : Nat) (hj : j < ps.length) : ps.getD j nil2 ∈ ps := by
  rw [List.getD_eq_getElem?_getD, List.getElem?_eq_getElem hj]
  exact List.getElem_mem hj
theorem posP_mem (p : Int) : ∀ ps : List (Int × Int), (∃ q ∈ ps, q.1 = p) → posP p ps < ps.length
  | [], ⟨q, h, _⟩ => by simp at h
  | q :: ps, ⟨x, hx, he⟩ => by
    unfold posP
    by_cases hq : q.1 = p
    · rw [if_pos hq]; simp
    · rw [if_neg hq]
      have := posP_mem p ps ⟨x, (List.mem_cons.1 hx).resolve_left (fun e => hq (e ▸ he)), he⟩
      rw [List.length_cons]; omega
theorem putP_mem (page e : Int) (ps : List (Int × Int)) (q : Int × Int) (h : q ∈ putP page e ps) : q ∈ ps ∨ q = (page, e) := by
  unfold putP at h
  split at h
  · exact List.mem_or_eq_of_mem_set h
  · rcases List.mem_append.1 h with h | h
    · split at h
      · exact .inl (List.mem_of_mem_drop h)
      · exact .inl h
    · exact .inr (by simpa using h)
theorem set_same_fst (ps : List (Int × Int)) (j : Nat) (hj : j < ps.length) (e : Int) : (ps.set j ((ps.getD j nil2).1, e)).map Prod.fst = ps.map Prod.fst := by
  rw [List.map_set]
  apply List.ext_getElem?
  intro i
  rw [List.getElem?_set, List.length_map]
  by_cases hij : j = i
  · subst hij
    rw [if_pos rfl, if_pos hj, List.getElem?_map, List.getElem?_eq_getElem hj, List.getD_eq_getElem?_getD, List.getElem?_eq_getElem hj]
    rfl
  · rw [if_neg hij]
theorem putP_nodup (page e : Int) (ps : List (Int × Int)) (h : (ps.map Prod.fst).Nodup) : ((putP page e ps).map Prod.fst).Nodup := by
  unfold putP
  by_cases hp : posP page ps < ps.length
  · rw [if_pos hp]
    have := set_same_fst ps (posP page ps) hp e
    rw [posP_page page ps hp] at this
    rw [this]; exact h
  · rw [if_neg hp]
    have hn : ∀ x ∈ ps.map Prod.fst, x ≠ page := by
      intro x hx hxe
      obtain ⟨q, hq, rfl⟩ := List.mem_map.1 hx
      exact hp (posP_mem page ps ⟨q, hq, hxe⟩)
    rw [List.map_append, List.nodup_append]
    refine ⟨?_, by simp, ?_⟩
    · split
      · rw [List.map_drop]; exact h.sublist (List.drop_sublist _ _)
      · exact h
    · intro a ha b hb
      have hb' : b = page := by simpa using hb
      subst hb'
      split at ha
      · rw [List.map_drop] at ha; exact hn a (List.mem_of_mem_drop ha)
      · exact hn a ha
end Go.Proofs.Ytiogbgjeimdgmaa.TlbWalk
