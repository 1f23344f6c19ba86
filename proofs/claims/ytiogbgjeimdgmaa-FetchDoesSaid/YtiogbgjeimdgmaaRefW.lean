/- The document's queue: Take, walked; the nil queue. -/
import Derived.Test.YtiogbgjeimdgmaaRefV
namespace Go.Proofs.Ytiogbgjeimdgmaa.RefWalk
open Go.RowKit Go.Proofs.Ytiogbgjeimdgmaa.Aid Go.Proofs.YtiogbgjeimdgmaaW.PrintWords Go.Proofs.YtiogbgjeimdgmaaW.PrintLast Go.Proofs.YtiogbgjeimdgmaaW.PrintMore
open Go.Proofs.Ytiogbgjeimdgmaa.MmuWalk (Chg R32 Flt fltV noF flt infoF infoB Tabs row_ty own_keep two_ty box1 row_then foot mine MmuAt MStep NextRow qfoot cycF goodF qCells fill_row results_tct flt3_put flt3_below)
open Go.Proofs.Ytiogbgjeimdgmaa.RamWalk (Bytes leN own_cell putL)
open Go.Proofs.Ytiogbgjeimdgmaa.TlbWalk (RefAt own_then own_val own_some dropP step_append_run)
attribute [local go_sem] max2_int min2_int max_two min_two max_three min_three max_four min_four   -- for this text's walks alone
set_option linter.unusedVariables false
set_option linter.unusedSimpArgs false
set_option maxRecDepth 100000 in
set_option maxHeartbeats 2000000 in
theorem ytake_off (w : World) (q : Nat) (n : Int) (h : n < 0 ∨ 16 < n) : Calls Try.prog 43 #[.pointer (some ⟨q, 0, none⟩), .int .i64 n] w fun e w' => e = .returned (.tuple #[.slice none 0 0, fltV noF, .bool false]) ∧ Below w.heap.size w w' := by
  rcases h with h | h
  all_goals
    go_enter Try.func43, Try.ntmps43
    go_wp2_with (first
      | (refine wpList_store_row rfl 47 (.tmp 5) (.tmp 14) rfl w.heap.size #[.int .i64 0, .int .u32 0, .int .u32 0] rfl rfl _ _ (heap_alloc_new w _) infoF rfl (by kernel_rfl) ?_))
    refine bodyPost_ret (results_tct rfl _ _ w.heap.size 47 #[.int .i64 0, .int .u32 0, .int .u32 0] (0, 0) _ rfl (setRow_heap _ _ _ _ 47 _ (heap_alloc_new w _)) Try.underlying47 rfl infoF) rfl ⟨rfl, below_setRow (below_alloc (Below.refl _ _) _) (Nat.le_refl _) _⟩
set_option maxRecDepth 100000 in
set_option maxHeartbeats 2000000 in
theorem ytake_none (w : World) (base q m : Nat) (pc fk fv fi : Int) (u : Bool) (A : Option Addr) (c k : Nat) (n : Int) (bs : List Int) (h : YAt w base q m pc u (.slice A k c) bs (fk, fv, fi)) (hn : ¬ n ≤ k) (h16 : n ≤ 16) :
    Calls Try.prog 43 #[.pointer (some ⟨q, 0, none⟩), .int .i64 n] w fun e w' => e = .returned (.tuple #[.slice none 0 0, .agg #[.int .i64 fk, .int .u32 fv, .int .u32 fi], .bool (fk != 0)]) ∧ Below w.heap.size w w' := by
  have BX := box1 w (.cells #[.int .i64 0, .int .u32 0, .int .u32 0] 47 (0, 0))
  obtain ⟨W, hW⟩ : ∃ W, w.alloc (.cells #[.int .i64 0, .int .u32 0, .int .u32 0] 47 (0, 0)) = W := ⟨_, rfl⟩
  rw [hW] at BX
  have BX := Aside0.mk BX
  have c3 : W.cell? ⟨q, 3, none⟩ = some (.slice A k c) := (h.then BX.out.1).cell 3
  have c4 : W.cell? ⟨q, 4, none⟩ = some (.int .i64 fk) := (h.then BX.out.1).cell 4
  have c5 : W.cell? ⟨q, 5, none⟩ = some (.int .u32 fv) := (h.then BX.out.1).cell 5
  have c6 : W.cell? ⟨q, 6, none⟩ = some (.int .u32 fi) := (h.then BX.out.1).cell 6
  have z0 := cell_of_row _ _ 0 _ _ _ BX.out.2
  have z1 := cell_of_row _ _ 1 _ _ _ BX.out.2
  have z2 := cell_of_row _ _ 2 _ _ _ BX.out.2
  have g0 := frozen_of_row _ _ 0 _ _ BX.out.2
  have g1 := frozen_of_row _ _ 1 _ _ BX.out.2
  have g2 := frozen_of_row _ _ 2 _ _ BX.out.2
  simp only [List.getElem?_toArray, List.getElem?_cons_zero, List.getElem?_cons_succ] at z0 z1 z2
  have hn0 : ¬ n < 0 := by omega
  have hn5 : ¬ 16 < n := by omega
  have hqs : ¬ w.heap.size = q := by have := h.lt; omega
  clear h
  go_enter Try.func43, Try.ntmps43
  go_wp2
  go_region
  all_goals (
    go_wp2
    refine bodyPost_ret (results_tct rfl _ _ w.heap.size 47 #[.int .i64 fk, .int .u32 fv, .int .u32 fi] (0, 0) _ rfl (flt3_put BX.out.2 _ _ _) Try.underlying47 rfl infoF) rfl ⟨rfl, flt3_below BX.out.1 (Nat.le_refl _) _ _ _⟩)
theorem y_take_end {w W w2 : World} {base y m : Nat} {pc : Int} {u : Bool} {vb v2 : Value} {bs bs2 : List Int} {f : Flt} {n2 : Nat} {a b c : Value} (h : YAt w base y m pc u vb bs f) (bW : Below w.heap.size w W) (hs : w.heap.size < W.heap.size) (hx : W.heap[w.heap.size]? = some (.cells #[a, b, c] 47 (0, 0)))
    (k2 : Below W.heap.size W w2) (o2 : w2.ownsRow W.heap.size 5 1 v2 n2 (nums .u8 bs2)) (hl : bs2.length = n2) (z : Array Value) :
    YAt ((w2.setCell ⟨y, 3, none⟩ v2).setRow w.heap.size z) base y m pc u v2 bs2 f ∧ NextRow w vb v2 ∧ Chg (fun i => i = y) w ((w2.setCell ⟨y, 3, none⟩ v2).setRow w.heap.size z) ∧
    (w2.setCell ⟨y, 3, none⟩ v2).heap[w.heap.size]? = some (.cells #[a, b, c] 47 (0, 0)) ∧ w2.cell? ⟨y, 3, none⟩ = some vb ∧ w2.frozen? ⟨y, 3, none⟩ = false := by
  subst hl
  have hq := h.lt
  have b2 : Below w.heap.size w w2 := below_step bW k2
  have hb : w2.heap[y]? = some (.cells (qCells m pc u vb f) 83 (0, 0)) := (h.then b2).blk
  have e : ∀ i, i ≠ y → i ≠ w.heap.size → ((w2.setCell ⟨y, 3, none⟩ v2).setRow w.heap.size z).heap[i]? = w2.heap[i]? := fun i h1 h2 => (setRow_other _ w.heap.size i z h2).trans (Below.heap_setCell w2 ⟨y, 3, none⟩ v2 i h1)
  have l2 : ∀ i, v2.ownBlock = some i → W.heap.size ≤ i := fun i hi => own_base o2 i hi
  refine ⟨⟨?_, h.ge, own_less (own_keep o2 (fun i hi => e i (by have := l2 i hi; omega) (by have := l2 i hi; omega))) (by have := h.ge; omega)⟩, fun i hi => .inr (by have := l2 i hi; omega), ⟨b2.os, b2.tape, b2.output, ?_, fun i hi hf => (e i hf (by omega)).trans (b2.block i hi)⟩, ?_, cell_of_row _ _ 3 _ _ _ hb, frozen_of_row _ _ 3 _ _ hb⟩
  · exact (setRow_other _ w.heap.size y z (by omega)).trans (blk_put hb 3 v2 rfl)
  · simpa [World.setRow, World.setCell] using b2.size
  · exact (Below.heap_setCell w2 ⟨y, 3, none⟩ v2 w.heap.size (by show w.heap.size ≠ y; omega)).trans (row_then hx k2)
/-- A row that is read stays where only other blocks are turned. -/
theorem reads_chg {w w' : World} {S : Nat → Prop} {A : Option Addr} {n : Nat} {xs : List Int} (h : ReadsInt w .u8 A n xs) (c : Chg S w w') (hS : ∀ a, A = some a → 0 < n → ¬ S a.block) : ReadsInt w' .u8 A n xs :=
  ⟨h.1, h.2.1, fun hn => by
    obtain ⟨ad, e, hc⟩ := h.2.2 hn
    refine ⟨ad, e, fun j hj => ?_⟩
    have hz : (ad.add j).block = ad.block := by unfold Addr.add; split <;> rfl
    have hlt := World.block_lt_of_cell? w _ (hc j hj)
    have hb := c.block (ad.add j).block hlt (by rw [hz]; exact hS ad e hn)
    have := hc j hj
    unfold World.cell? at this ⊢
    rw [hb]
    exact this⟩
def YTake (w : World) (base y m : Nat) (pc : Int) (u : Bool) (vb : Value) (n : Nat) (bs : List Int) (f : Flt) (e : Ending) (w' : World) : Prop := ∃ A1 c1 v2, e = .returned (.tuple #[.slice A1 n c1, fltV noF, .bool true]) ∧ ReadsInt w' .u8 A1 n (bs.take n) ∧ YAt w' base y m pc u v2 (bs.drop n) f ∧ NextRow w vb v2 ∧ Chg (fun i => i = y) w w'
set_option maxRecDepth 100000 in
set_option maxHeartbeats 2000000 in
theorem ytake_some (w : World) (base y m : Nat) (pc : Int) (u : Bool) (ad : Addr) (c n : Nat) (bs : List Int) (f : Flt) (h : YAt w base y m pc u (.slice (some ad) bs.length c) bs f) (hn : n ≤ bs.length) (hl : bs.length ≤ 16) :
    Calls Try.prog 43 #[.pointer (some ⟨y, 0, none⟩), .int .i64 n] w (YTake w base y m pc u (.slice (some ad) bs.length c) n bs f) := by
  have RI := own_reads' h.row
  have hc : bs.length ≤ c := own_le h.row
  have H := Aside0.mk h
  have BX := box1 w (.cells #[.int .i64 0, .int .u32 0, .int .u32 0] 47 (0, 0))
  have hsz : (w.alloc (.cells #[.int .i64 0, .int .u32 0, .int .u32 0] 47 (0, 0))).heap.size = w.heap.size + 1 := by simp [World.alloc_eq]
  obtain ⟨W, hW⟩ : ∃ W, w.alloc (.cells #[.int .i64 0, .int .u32 0, .int .u32 0] 47 (0, 0)) = W := ⟨_, rfl⟩
  rw [hW] at BX hsz
  have BX := Aside0.mk BX
  have c3 : W.cell? ⟨y, 3, none⟩ = some (.slice (some ad) bs.length c) := (h.then BX.out.1).cell 3
  have c3a := fun o => (h.then (below_step BX.out.1 (below_alloc (Below.refl W.heap.size W) o))).cell 3
  simp only [qCells, List.getElem?_toArray, List.getElem?_cons_zero, List.getElem?_cons_succ] at c3a
  have RT := Aside0.mk (RI.take_ n hn)
  have NB := Aside0.mk (show ∀ a, (some ad : Option Addr) = some a → 0 < n → ¬ a.block = y from fun a ha hp e => by
    simp only [Option.some.injEq] at ha
    subst ha
    obtain ⟨ad', ha', hcell⟩ := RI.2.2 (by omega)
    simp only [Option.some.injEq] at ha'
    subst ha'
    rcases h.row.2 with ⟨hv, _⟩ | ⟨b', c', cur, hv, _, hh, _⟩
    · simp at hv
    · simp only [Value.slice.injEq, Option.some.injEq] at hv
      have hbk := h.blk
      rw [hv.1] at e
      simp only at e
      rw [← e, hh] at hbk
      simp only [Option.some.injEq, Obj.cells.injEq] at hbk
      exact absurd hbk.2.1 (by decide))
  have OE := Aside0.mk (World.ownsRow_lit (base := W.heap.size) (e := 5) (size := 1) W #[] 0 (Nat.le_refl _) (Nat.zero_le _) rfl)
  have BE := Aside0.mk (below_alloc (Below.refl W.heap.size W) (.cells #[] 5 (0, 0)))
  have CL2 := Aside0.mk ((RI.below (below_step BX.out.1 BE.out)).drop_ n hn hc)
  have hn1 : (n : Int) ≤ bs.length := by omega
  have hn0 : ¬ (n : Int) < 0 := by omega
  have hn5 : ¬ 16 < (n : Int) := by omega
  have hn2 : (n : Int) ≤ 16 := by omega
  have hn3 : (n : Int) ≤ c := by omega
  have hn4 : (bs.length : Int) ≤ c := by omega
  have LD := Aside0.mk (show (bs.drop n).length = bs.length - n by rw [List.length_drop])
  have L16 := Aside0.mk hl
  have HSZ := Aside0.mk hsz
  clear h RI hsz hl
  by_cases hcn : c = n
  · subst hcn
    have hbc : bs.length = c := by omega
    subst hbc
    clear CL2
    go_enter Try.func43, Try.ntmps43
    go_wp2_with (first
      | (at_builtin; refine print_append_row (w0 := W) W.heap.size rfl (.tmp 29) (.tmp 35) 22 5 .u8 1 rfl Try.underlying22 infoB (by decide) _ [] [] (some ad) 0 0 rfl rfl (OE.out) ⟨rfl, by decide, fun h => absurd h (by decide)⟩ BE.out BE.out.size (by decide) ?_; intro v2 w2 ho hb hg hat; rw [List.nil_append] at ho; obtain ⟨A9, c9, rfl⟩ := own_val ho; have TE := Aside0.mk (y_take_end H.out BX.out.1 (by have := HSZ.out; omega) BX.out.2 hb ho rfl #[.int .i64 0, .int .u32 0, .int .u32 0]); have q3 := TE.out.2.2.2.2.1; have q4 := TE.out.2.2.2.2.2; clear ho hb hg hat)
      | (refine wpList_store_row rfl 47 (.tmp 5) (.tmp 40) rfl w.heap.size #[.int .i64 0, .int .u32 0, .int .u32 0] rfl rfl _ _ TE.out.2.2.2.1 infoF rfl (by kernel_rfl) ?_))
    refine bodyPost_ret (results_tct rfl _ _ w.heap.size 47 #[.int .i64 0, .int .u32 0, .int .u32 0] (0, 0) _ rfl (setRow_heap _ _ _ _ 47 _ TE.out.2.2.2.1) Try.underlying47 rfl infoF) rfl ⟨some ad, bs.length, _, rfl, reads_chg RT.out TE.out.2.2.1 NB.out, (by rw [List.drop_length]; exact TE.out.1), TE.out.2.1, TE.out.2.2.1⟩
  · have CL := Aside0.mk (show ReadsInt (W.alloc (.cells #[] 5 (0, 0))) .u8 (some (ad.add n)) (bs.length - n) (bs.drop n) from by have := CL2.out; rwa [if_neg hcn] at this)
    clear CL2
    have hcn1 : ¬ (c : Int) = n := by omega
    have hcn2 : ¬ (n : Int) = c := by omega
    go_enter Try.func43, Try.ntmps43
    go_wp2_with (first
      | (at_builtin; refine print_append_row (w0 := W) W.heap.size rfl (.tmp 29) (.tmp 35) 22 5 .u8 1 rfl Try.underlying22 infoB (by decide) _ [] (bs.drop n) (some (ad.add n)) (bs.length - n) (c - n) rfl rfl (OE.out) CL.out BE.out BE.out.size (by have := L16.out; simp; omega) ?_; intro v2 w2 ho hb hg hat; rw [List.nil_append, LD.out] at ho; obtain ⟨A9, c9, rfl⟩ := own_val ho; have TE := Aside0.mk (y_take_end H.out BX.out.1 (by have := HSZ.out; omega) BX.out.2 hb ho LD.out #[.int .i64 0, .int .u32 0, .int .u32 0]); have q3 := TE.out.2.2.2.2.1; have q4 := TE.out.2.2.2.2.2; clear ho hb hg hat)
      | (refine wpList_store_row rfl 47 (.tmp 5) (.tmp 40) rfl w.heap.size #[.int .i64 0, .int .u32 0, .int .u32 0] rfl rfl _ _ TE.out.2.2.2.1 infoF rfl (by kernel_rfl) ?_))
    refine bodyPost_ret (results_tct rfl _ _ w.heap.size 47 #[.int .i64 0, .int .u32 0, .int .u32 0] (0, 0) _ rfl (setRow_heap _ _ _ _ 47 _ TE.out.2.2.2.1) Try.underlying47 rfl infoF) rfl ⟨some ad, c, _, rfl, reads_chg RT.out TE.out.2.2.1 NB.out, TE.out.1, TE.out.2.1, TE.out.2.2.1⟩
set_option maxRecDepth 100000 in
set_option maxHeartbeats 2000000 in
theorem ytake_nil (w : World) (base y m : Nat) (pc : Int) (u : Bool) (f : Flt) (h : YAt w base y m pc u (.slice none 0 0) [] f) :
    Calls Try.prog 43 #[.pointer (some ⟨y, 0, none⟩), .int .i64 0] w (YTake w base y m pc u (.slice none 0 0) 0 [] f) := by
  have H := Aside0.mk h
  have BX := box1 w (.cells #[.int .i64 0, .int .u32 0, .int .u32 0] 47 (0, 0))
  have hsz : (w.alloc (.cells #[.int .i64 0, .int .u32 0, .int .u32 0] 47 (0, 0))).heap.size = w.heap.size + 1 := by simp [World.alloc_eq]
  obtain ⟨W, hW⟩ : ∃ W, w.alloc (.cells #[.int .i64 0, .int .u32 0, .int .u32 0] 47 (0, 0)) = W := ⟨_, rfl⟩
  rw [hW] at BX hsz
  have BX := Aside0.mk BX
  have c3 : W.cell? ⟨y, 3, none⟩ = some (.slice none 0 0) := (h.then BX.out.1).cell 3
  have c3a := fun o => (h.then (below_step BX.out.1 (below_alloc (Below.refl W.heap.size W) o))).cell 3
  simp only [qCells, List.getElem?_toArray, List.getElem?_cons_zero, List.getElem?_cons_succ] at c3a
  have OE := Aside0.mk (World.ownsRow_lit (base := W.heap.size) (e := 5) (size := 1) W #[] 0 (Nat.le_refl _) (Nat.zero_le _) rfl)
  have BE := Aside0.mk (below_alloc (Below.refl W.heap.size W) (.cells #[] 5 (0, 0)))
  have HSZ := Aside0.mk hsz
  clear h hsz
  go_enter Try.func43, Try.ntmps43
  go_wp2_with (first
    | (at_builtin; refine print_append_row (w0 := W) W.heap.size rfl (.tmp 29) (.tmp 35) 22 5 .u8 1 rfl Try.underlying22 infoB (by decide) _ [] [] none 0 0 rfl rfl (OE.out) (ReadsInt.nil _ _) BE.out BE.out.size (by decide) ?_; intro v2 w2 ho hb hg hat; rw [List.nil_append] at ho; obtain ⟨A9, c9, rfl⟩ := own_val ho; have TE := Aside0.mk (y_take_end H.out BX.out.1 (by have := HSZ.out; omega) BX.out.2 hb ho rfl #[.int .i64 0, .int .u32 0, .int .u32 0]); have q3 := TE.out.2.2.2.2.1; have q4 := TE.out.2.2.2.2.2; clear ho hb hg hat)
    | (refine wpList_store_row rfl 47 (.tmp 5) (.tmp 40) rfl w.heap.size #[.int .i64 0, .int .u32 0, .int .u32 0] rfl rfl _ _ TE.out.2.2.2.1 infoF rfl (by kernel_rfl) ?_))
  all_goals refine bodyPost_ret (results_tct rfl _ _ w.heap.size 47 #[.int .i64 0, .int .u32 0, .int .u32 0] (0, 0) _ rfl (setRow_heap _ _ _ _ 47 _ TE.out.2.2.2.1) Try.underlying47 rfl infoF) rfl ⟨none, 0, _, rfl, ReadsInt.nil _ _, TE.out.1, TE.out.2.1, TE.out.2.2.1⟩
theorem ytake_have (w : World) (base y m : Nat) (pc : Int) (u : Bool) (vb : Value) (n : Nat) (bs : List Int) (f : Flt) (h : YAt w base y m pc u vb bs f) (hn : n ≤ bs.length) (hl : bs.length ≤ 16) :
    Calls Try.prog 43 #[.pointer (some ⟨y, 0, none⟩), .int .i64 n] w (YTake w base y m pc u vb n bs f) := by
  rcases h.row.2 with ⟨hv, hz⟩ | ⟨b2, c2, cur, hv, _⟩
  · subst hv
    obtain rfl : bs = [] := List.eq_nil_of_length_eq_zero hz
    obtain rfl : n = 0 := by simpa using hn
    exact ytake_nil w base y m pc u f h
  · subst hv
    exact ytake_some w base y m pc u _ c2 n bs f h hn hl
theorem nq_cycle (w : World) :
    Calls Try.prog 23 #[.pointer none] w fun e w' => e = .returned (.tuple #[]) ∧ w = w' := by
  go_enter Try.func23, Try.ntmps23
  go_wp2
  first | go_end0 | refine bodyPost_ret (results_none rfl _ _ _) rfl ?_
  exact ⟨rfl, rfl⟩
theorem nq_flush (w : World) (pc : Int) (u : Bool) :
    Calls Try.prog 22 #[.pointer none, .int .u32 pc, .bool u] w fun e w' => e = .returned (.tuple #[]) ∧ w = w' := by
  go_enter Try.func22, Try.ntmps22
  go_wp2
  first | go_end0 | refine bodyPost_ret (results_none rfl _ _ _) rfl ?_
  exact ⟨rfl, rfl⟩
theorem nq_len (w : World) :
    Calls Try.prog 26 #[.pointer none] w fun e w' => e = .returned (.int .i64 0) ∧ w = w' := by
  go_enter Try.func26, Try.ntmps26
  go_wp2
  go_ret
  exact ⟨rfl, rfl⟩
theorem nq_next (w : World) :
    Calls Try.prog 27 #[.pointer none] w fun e w' => e = .returned (.int .u32 0) ∧ w = w' := by
  go_enter Try.func27, Try.ntmps27
  go_wp2
  go_ret
  exact ⟨rfl, rfl⟩
set_option maxRecDepth 100000 in
set_option maxHeartbeats 2000000 in
theorem nq_take (w : World) (n : Int) :
    Calls Try.prog 25 #[.pointer none, .int .i64 n] w fun e w' => e = .returned (.tuple #[.slice none 0 0, fltV noF, .bool false]) ∧ Below w.heap.size w w' := by
  go_enter Try.func25, Try.ntmps25
  go_wp2_with (first
    | (refine wpList_store_row rfl 47 (.tmp 5) (.tmp 19) rfl w.heap.size #[.int .i64 0, .int .u32 0, .int .u32 0] rfl rfl _ _ (heap_alloc_new w _) infoF rfl (by kernel_rfl) ?_))
  refine bodyPost_ret (results_tct rfl _ _ w.heap.size 47 #[.int .i64 0, .int .u32 0, .int .u32 0] (0, 0) _ rfl (setRow_heap _ _ _ _ 47 _ (heap_alloc_new w _)) Try.underlying47 rfl infoF) rfl ⟨rfl, Go.Proofs.Ytiogbgjeimdgmaa.MmuWalk.below_setRow (below_alloc (Below.refl _ _) _) (Nat.le_refl _) _⟩
end Go.Proofs.Ytiogbgjeimdgmaa.RefWalk
