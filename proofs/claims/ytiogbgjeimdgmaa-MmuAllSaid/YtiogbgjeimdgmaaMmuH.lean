/- The MMU's Peek, walked. -/
import Derived.Test.YtiogbgjeimdgmaaMmuG
namespace Go.Proofs.Ytiogbgjeimdgmaa.MmuWalk
open Go.RowKit Go.Proofs.Ytiogbgjeimdgmaa.Aid Go.Proofs.YtiogbgjeimdgmaaW.PrintWords Go.Proofs.YtiogbgjeimdgmaaW.PrintLast Go.Proofs.YtiogbgjeimdgmaaW.PrintMore
open Go.Proofs.Ytiogbgjeimdgmaa.RamWalk (RamAt Bytes leN leN_bounds get_i get_bus_i size_n)
open Go.Proofs.Ytiogbgjeimdgmaa.TlbWalk (TlbAt Kept2 putP dropP posP entP nil2)
attribute [local go_sem] max2_int min2_int max_two min_two max_three min_three max_four min_four   -- for this text's walks alone
set_option linter.unusedVariables false
set_option linter.unusedSimpArgs false
/-- What Peek tells. -/
def peekF (T : Tabs) (ps : List (Int × Int)) (l : List Int) (va : Int) (u : Bool) : Int × Flt :=
  if (findF T ps l va 1 u false).2.1 ≠ 0 then (0, (findF T ps l va 1 u false).2) else (l.getD (findF T ps l va 1 u false).1.toNat 0, noF)
theorem box1 (w : World) (o1 : Obj) : Below w.heap.size w (w.alloc o1) ∧ (w.alloc o1).heap[w.heap.size]? = some o1 := ⟨below_alloc (Below.refl _ _) _, heap_alloc_new _ _⟩
theorem findP_keep (T : Tabs) (ps : List (Int × Int)) (l : List Int) (va : Int) (u wr : Bool) : findP T ps l va u wr false = ps := by
  unfold findP entryP
  split
  · rfl
  · rw [if_neg (fun c => by cases c.2.2)]
set_option maxRecDepth 100000 in
set_option maxHeartbeats 2000000 in
theorem peek_flt (w : World) (base : Nat) (L : Loc) (v : Value) (T : Tabs) (ps : List (Int × Int)) (l : List Int) (va x : Int) (u : Bool) (h : MmuAt w base L v T ps l) (fk fv fi : Int) (hk : (fk == 0) = false) (FD : Aside0 (∀ W, Below w.heap.size w W → Calls Try.prog 66 #[.pointer (some ⟨L.m, 0, none⟩), .agg #[.int .u32 va, .bool u, .bool false], .int .i64 1, .bool false] W fun e w' => e = .returned (.tuple #[.int .u32 x, .agg #[.int .i64 fk, .int .u32 fv, .int .u32 fi]]) ∧ MStep W w' base L v T ps l)) :
    Calls Try.prog 32 #[.pointer (some ⟨L.m, 0, none⟩), .int .u32 va, .bool u] w fun e w' => e = .returned (.tuple #[.int .u8 0, .agg #[.int .i64 fk, .int .u32 fv, .int .u32 fi]]) ∧ MStep w w' base L v T ps l := by
  have M := Aside0.mk h
  have BX := box1 w (.cells #[.int .i64 0, .int .u32 0, .int .u32 0] 47 (0, 0))
  obtain ⟨W, hW⟩ : ∃ W, w.alloc (.cells #[.int .i64 0, .int .u32 0, .int .u32 0] 47 (0, 0)) = W := ⟨_, rfl⟩
  rw [hW] at BX
  have MW := Aside0.mk (M.out.then BX.1)
  have Z := Aside0.mk BX.2
  have BB := Aside0.mk BX.1
  clear h BX
  go_enter Try.func32, Try.ntmps32
  go_wp2_with (first
    | (go_at_call 66; (with_reducible refine (FD.out _ BB.out).mono ?_); rintro e w2 ⟨rfl, s⟩; have S := Aside0.mk (MStep.after BB.out s); have Z := Aside0.mk (box_keep M.out Z.out (Nat.le_refl _) s); obtain ⟨v2, m2, _⟩ := s.at_; have MW := Aside0.mk m2; have m0 := fun o => (m2.then (below_alloc (Below.refl _ _) o)).cell 0; simp only [mmuCells, List.getElem?_toArray, List.getElem?_cons_zero, List.getElem?_cons_succ] at m0; clear m2 s))
  have Y := heap_alloc_new w2 (.cells #[.int .i64 fk, .int .u32 fv, .int .u32 fi] 47 (0, 0))
  have Zn := row_then Z.out (below_alloc (Below.refl _ _) (.cells #[.int .i64 fk, .int .u32 fv, .int .u32 fi] 47 (0, 0)))
  have Sn := Aside0.mk (S.out.then (below_alloc (Below.refl _ _) (.cells #[.int .i64 fk, .int .u32 fv, .int .u32 fi] 47 (0, 0))))
  generalize w2.alloc (.cells #[.int .i64 fk, .int .u32 fv, .int .u32 fi] 47 (0, 0)) = V at *
  have y0 := cell_of_row _ _ 0 _ _ _ Y
  have y1 := cell_of_row _ _ 1 _ _ _ Y
  have y2 := cell_of_row _ _ 2 _ _ _ Y
  have z0 := cell_of_row _ _ 0 _ _ _ Zn
  have z1 := cell_of_row _ _ 1 _ _ _ Zn
  have z2 := cell_of_row _ _ 2 _ _ _ Zn
  have g0 := frozen_of_row _ _ 0 _ _ Zn
  have g1 := frozen_of_row _ _ 1 _ _ Zn
  have g2 := frozen_of_row _ _ 2 _ _ Zn
  simp only [List.getElem?_toArray, List.getElem?_cons_zero, List.getElem?_cons_succ] at y0 y1 y2 z0 z1 z2
  have hne : ¬ w2.heap.size = w.heap.size := by have := (Array.getElem?_eq_some_iff.1 Z.out).1; omega
  have Y := Aside0.mk Y
  have Zn := Aside0.mk Zn
  go_region
  go_wp2
  refine bodyPost_ret (results_tc rfl _ _ (w.heap.size) 47 #[.int .i64 fk, .int .u32 fv, .int .u32 fi] (0, 0) _ rfl (flt3_put Zn.out _ _ _) Try.underlying47 rfl infoF) rfl ⟨rfl, MStep.put3 Sn.out (by omega) Zn.out (by unfold mTy; decide) _ _ _⟩
set_option maxRecDepth 100000 in
set_option maxHeartbeats 2000000 in
theorem peek_ok (w : World) (base : Nat) (L : Loc) (v : Value) (T : Tabs) (ps : List (Int × Int)) (l : List Int) (va x : Int) (u : Bool) (h : MmuAt w base L v T ps l) (y : Int) (hy : y % 256 = y) (FD : Aside0 (∀ W, Below w.heap.size w W → Calls Try.prog 66 #[.pointer (some ⟨L.m, 0, none⟩), .agg #[.int .u32 va, .bool u, .bool false], .int .i64 1, .bool false] W fun e w' => e = .returned (.tuple #[.int .u32 x, .agg #[.int .i64 0, .int .u32 0, .int .u32 0]]) ∧ MStep W w' base L v T ps l)) (RG : Aside0 (∀ W v' ps', MmuAt W base L v' T ps' l → Calls Try.prog 41 #[.pointer (some ⟨L.r, 0, none⟩), .int .u32 x, .int .i64 1] W fun e w' => e = .returned (.tuple #[.int .u32 y, .int .i64 0]) ∧ W = w')) :
    Calls Try.prog 32 #[.pointer (some ⟨L.m, 0, none⟩), .int .u32 va, .bool u] w fun e w' => e = .returned (.tuple #[.int .u8 y, .agg #[.int .i64 0, .int .u32 0, .int .u32 0]]) ∧ MStep w w' base L v T ps l := by
  have M := Aside0.mk h
  have BX := box1 w (.cells #[.int .i64 0, .int .u32 0, .int .u32 0] 47 (0, 0))
  obtain ⟨W, hW⟩ : ∃ W, w.alloc (.cells #[.int .i64 0, .int .u32 0, .int .u32 0] 47 (0, 0)) = W := ⟨_, rfl⟩
  rw [hW] at BX
  have MW := Aside0.mk (M.out.then BX.1)
  have Z := Aside0.mk BX.2
  have BB := Aside0.mk BX.1
  clear h BX
  go_enter Try.func32, Try.ntmps32
  go_wp2_with (first
    | (go_at_call 66; (with_reducible refine (FD.out _ BB.out).mono ?_); rintro e w2 ⟨rfl, s⟩; have S := Aside0.mk (MStep.after BB.out s); have Z := Aside0.mk (box_keep M.out Z.out (Nat.le_refl _) s); obtain ⟨v2, m2, _⟩ := s.at_; have MW := Aside0.mk m2; have m0 := fun o => (m2.then (below_alloc (Below.refl _ _) o)).cell 0; simp only [mmuCells, List.getElem?_toArray, List.getElem?_cons_zero, List.getElem?_cons_succ] at m0; clear m2 s)
    | (go_at_call 41; (with_reducible refine (RG.out _ _ _ (MW.out.then (below_alloc (Below.refl _ _) _))).mono ?_); rintro e w3 ⟨rfl, rfl⟩)
    | (refine wpList_store_row rfl 47 (.tmp 7) (.tmp 39) rfl w.heap.size #[.int .i64 0, .int .u32 0, .int .u32 0] rfl rfl _ _ (row_then Z.out (below_alloc (Below.refl _ _) _)) infoF rfl (by kernel_rfl) ?_))
  refine bodyPost_ret (results_tc rfl _ _ (w.heap.size) 47 #[.int .i64 0, .int .u32 0, .int .u32 0] (0, 0) _ rfl (setRow_heap _ _ _ _ 47 _ (row_then Z.out (below_alloc (Below.refl _ _) _))) Try.underlying47 rfl infoF) rfl ⟨rfl, MStep.setRow (S.out.then (below_alloc (Below.refl _ _) _)) (by omega) (row_then Z.out (below_alloc (Below.refl _ _) _)) (by unfold mTy; decide) _⟩
theorem findF_fit {T : Tabs} {ps : List (Int × Int)} {l : List Int} {va n : Int} {u wr : Bool} (h : (findF T ps l va n u wr).2.1 = 0) : (findF T ps l va n u wr).1 + n ≤ l.length ∧ (findF T ps l va n u wr).2 = noF := by
  unfold findF at h ⊢
  split at h
  · rename_i hm
    rw [if_pos hm]
    split at h
    · rename_i hl; rw [if_pos hl]; exact ⟨hl, rfl⟩
    · cases (show (1 : Int) = 0 from h)
  · rename_i hm
    rw [if_neg hm]
    split at h
    · rename_i hf; exact absurd h hf
    · rename_i hf
      rw [if_neg hf]
      split at h
      · rename_i hl; rw [if_pos hl]; exact ⟨hl, rfl⟩
      · cases (show (1 : Int) = 0 from h)
theorem findF_r {W : World} {base : Nat} {L : Loc} {v : Value} {T : Tabs} {ps : List (Int × Int)} {l : List Int} (h : MmuAt W base L v T ps l) (va n : Int) (hv : R32 va) (u wr : Bool) : R32 (findF T ps l va n u wr).1 := by
  have z : R32 (0 : Int) := ⟨by decide, by decide⟩
  unfold findF
  split
  · split
    · exact hv
    · exact z
  · split
    · exact z
    · split
      · exact placeE_r _ _
      · exact z
theorem take_one (l : List Int) (a : Nat) (h : a < l.length) : leN ((l.drop a).take 1) = l.getD a 0 := by
  rw [List.drop_eq_getElem_cons h, List.getD_eq_getElem?_getD, List.getElem?_eq_getElem h]
  show l[a] + 256 * 0 = l[a]
  omega
theorem peek_call (w : World) (base : Nat) (L : Loc) (v : Value) (T : Tabs) (ps : List (Int × Int)) (l : List Int) (va : Int) (u : Bool) (hv : R32 va) (h : MmuAt w base L v T ps l) :
    Calls Try.prog 32 #[.pointer (some ⟨L.m, 0, none⟩), .int .u32 va, .bool u] w fun e w' => e = .returned (.tuple #[.int .u8 (peekF T ps l va u).1, fltV (peekF T ps l va u).2]) ∧ MStep w w' base L v T ps l := by
  have FD := Aside0.mk (fun W (hW : Below w.heap.size w W) => find_call W base L v T ps l va 1 u false false hv (by decide) (h.then hW))
  rw [findP_keep] at FD
  unfold accV at FD
  have hr := findF_r h va 1 hv u false
  have hf := @findF_fit T ps l va 1 u false
  unfold peekF
  rw [show (((1 : Nat) : Int)) = 1 from rfl] at FD
  generalize findF T ps l va 1 u false = r at *
  obtain ⟨x, fk, fv, fi⟩ := r
  by_cases hk : fk = 0
  · obtain ⟨h1, h2⟩ := hf hk
    simp only [noF, Prod.mk.injEq] at h2
    obtain ⟨rfl, rfl, rfl⟩ := h2
    rw [if_neg (by simp)]
    have h1 : x + 1 ≤ l.length := h1
    have hr : 0 ≤ x ∧ x < 4294967296 := hr
    have hy := h.by_.get x.toNat
    refine peek_ok w base L v T ps l va x u h (l.getD x.toNat 0) (by omega) FD ⟨fun W v' ps' k => ?_⟩
    exact get_i W base L.r L.b l.length L.c l k.by_ x 1 hr.1 hr.2 k.ram (by decide) h1 (by decide) _ (take_one l x.toNat (by omega))
  · rw [if_pos hk]
    exact peek_flt w base L v T ps l va x u h fk fv fi (beq_eq_false_iff_ne.mpr hk) FD
end Go.Proofs.Ytiogbgjeimdgmaa.MmuWalk
