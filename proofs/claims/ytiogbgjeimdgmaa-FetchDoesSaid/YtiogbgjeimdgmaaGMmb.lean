/- The MMU's Peek, walked. -/
import Derived.Test.YtiogbgjeimdgmaaGMma
namespace Go.Proofs.Ytiogbgjeimdgmaa.MmuWalk
open Go.RowKit Go.Proofs.Ytiogbgjeimdgmaa.Aid Go.Proofs.YtiogbgjeimdgmaaW.PrintWords Go.Proofs.YtiogbgjeimdgmaaW.PrintLast Go.Proofs.YtiogbgjeimdgmaaW.PrintMore
open Go.Proofs.Ytiogbgjeimdgmaa.RamWalk (RamAt Bytes leN leN_bounds get_i get_bus_i size_n)
open Go.Proofs.Ytiogbgjeimdgmaa.TlbWalk (TlbAt Kept2 putP dropP posP entP nil2)
attribute [local go_sem] max2_int min2_int max_two min_two max_three min_three max_four min_four   -- for this text's walks alone
set_option linter.unusedVariables false
set_option linter.unusedSimpArgs false
/-- What Peek tells. -/
def peekF (T : Tabs) (ps : List (Int × Int)) (l : List Int) (va : Int) (u : Bool) : Int × Flt :=
  if (findF T ps l va 1 u false).2.1 ≠ 0 then (0, (findF T ps l va 1 u false).2) else (l.getD (findF T ps l va 1 u false).1.toNat 0, noF)
theorem box1 (w : World) (o1 : Obj) : Below w.heap.size w (w.alloc o1) ∧ (w.alloc o1).heap[w.heap.size]? = some o1 := ⟨below_alloc (Below.refl _ _) _, heap_alloc_new _ _⟩
theorem findP_keep (T : Tabs) (ps : List (Int × Int)) (l : List Int) (va : Int) (u wr : Bool) : findP T ps l va u wr false = ps := by
  unfold findP entryP
  split
  · rfl
  · rw [if_neg (fun c => by cases c.2.2)]
set_option maxRecDepth 100000 in
set_option maxHeartbeats 2000000 in
theorem peek_flt (w : World) (base : Nat) (L : Loc) (v : Value) (T : Tabs) (ps : List (Int × Int)) (l : List Int) (va x : Int) (u : Bool) (h : MmuAt w base L v T ps l) (fk fv fi : Int) (hk : (fk == 0) = false) (FD : Aside0 (∀ W, Below w.heap.size w W → Calls Try.prog 66 #[.pointer (some ⟨L.m, 0, none⟩), .agg #[.int .u32 va, .bool u, .bool false], .int .i64 1, .bool false] W fun e w' => e = .returned (.tuple #[.int .u32 x, .agg #[.int .i64 fk, .int .u32 fv, .int .u32 fi]]) ∧ MStep W w' base L v T ps l)) :
    Calls Try.prog 32 #[.pointer (some ⟨L.m, 0, none⟩), .int .u32 va, .bool u] w fun e w' => e = .returned (.tuple #[.int .u8 0, .agg #[.int .i64 fk, .int .u32 fv, .int .u32 fi]]) ∧ MStep w w' base L v T ps l := by
  have M := Aside0.mk h
  have BX := box1 w (.cells #[.int .i64 0, .int .u32 0, .int .u32 0] 47 (0, 0))
  obtain ⟨W, hW⟩ : ∃ W, w.alloc (.cells #[.int .i64 0, .int .u32 0, .int .u32 0] 47 (0, 0)) = W := ⟨_, rfl⟩
  rw [hW] at BX
  have MW := Aside0.mk (M.out.then BX.1)
  have Z := Aside0.mk BX.2
  have BB := Aside0.mk BX.1
  clear h BX
  go_enter Try.func32, Try.ntmps32
  go_wp2_with (first
    | (go_at_call 66; (with_reducible refine (FD.out _ BB.out).mono ?_); rintro e w2 ⟨rfl, s⟩; have S := Aside0.mk (MStep.after BB.out s); have Z := Aside0.mk (box_keep M.out Z.out (Nat.le_refl _) s); obtain ⟨v2, m2, _⟩ := s.at_; have MW := Aside0.mk m2; have m0 := fun o => (m2.then (below_alloc (Below.refl _ _) o)).cell 0; simp only [mmuCells, List.getElem?_toArray, List.getElem?_cons_zero, List.getElem?_cons_succ] at m0; clear m2 s))
  have Y := heap_alloc_new w2 (.cells #[.int .i64 fk, .int .u32 fv, .int .u32 fi] 47 (0, 0))
  have Zn := row_then Z.out (below_alloc (Below.refl _ _) (.cells #[.int .i64 fk, .int .u32 fv, .int .u32 fi] 47 (0, 0)))
  have Sn := Aside0.mk (S.out.then (below_alloc (Below.refl _ _) (.cells #[.int .i64 fk, .int .u32 fv, .int .u32 fi] 47 (0, 0))))
  generalize w2.alloc (.cells #[.int .i64 fk, .int .u32 fv, .int .u32 fi] 47 (0, 0)) = V at *
  have y0 := cell_of_row _ _ 0 _ _ _ Y
  have y1 := cell_of_row _ _ 1 _ _ _ Y
  have y2 := cell_of_row _ _ 2 _ _ _ Y
  have z0 := cell_of_row _ _ 0 _ _ _ Zn
  have z1 := cell_of_row _ _ 1 _ _ _ Zn
  have z2 := cell_of_row _ _ 2 _ _ _ Zn
  have g0 := frozen_of_row _ _ 0 _ _ Zn
  have g1 := frozen_of_row _ _ 1 _ _ Zn
  have g2 := frozen_of_row _ _ 2 _ _ Zn
  simp only [List.getElem?_toArray, List.getElem?_cons_zero, List.getElem?_cons_succ] at y0 y1 y2 z0 z1 z2
  have hne : ¬ w2.heap.size = w.heap.size := by have := (Array.getElem?_eq_some_iff.1 Z.out).1; omega
  have Y := Aside0.mk Y
  have Zn := Aside0.mk Zn
  go_region
  go_wp2
  refine bodyPost_ret (results_tc rfl _ _ (w.heap.size) 47 #[.int .i64 fk, .int .u32 fv, .int .u32 fi] (0, 0) _ rfl (flt3_put Zn.out _ _ _) Try.underlying47 rfl infoF) rfl ⟨rfl, MStep.put3 Sn.out (by omega) Zn.out (by unfold mTy; decide) _ _ _⟩
set_option maxRecDepth 100000 in
set_option maxHeartbeats 2000000 in
theorem peek_ok (w : World) (base : Nat) (L : Loc) (v : Value) (T : Tabs) (ps : List (Int × Int)) (l : List Int) (va x : Int) (u : Bool) (h : MmuAt w base L v T ps l) (y : Int) (hy : y % 256 = y) (FD : Aside0 (∀ W, Below w.heap.size w W → Calls Try.prog 66 #[.pointer (some ⟨L.m, 0, none⟩), .agg #[.int .u32 va, .bool u, .bool false], .int .i64 1, .bool false] W fun e w' => e = .returned (.tuple #[.int .u32 x, .agg #[.int .i64 0, .int .u32 0, .int .u32 0]]) ∧ MStep W w' base L v T ps l)) (RG : Aside0 (∀ W v' ps', MmuAt W base L v' T ps' l → Calls Try.prog 41 #[.pointer (some ⟨L.r, 0, none⟩), .int .u32 x, .int .i64 1] W fun e w' => e = .returned (.tuple #[.int .u32 y, .int .i64 0]) ∧ W = w')) :
    Calls Try.prog 32 #[.pointer (some ⟨L.m, 0, none⟩), .int .u32 va, .bool u] w fun e w' => e = .returned (.tuple #[.int .u8 y, .agg #[.int .i64 0, .int .u32 0, .int .u32 0]]) ∧ MStep w w' base L v T ps l := by
  have M := Aside0.mk h
  have BX := box1 w (.cells #[.int .i64 0, .int .u32 0, .int .u32 0] 47 (0, 0))
  obtain ⟨W, hW⟩ : ∃ W, w.alloc (.cells #[.int .i64 0, .int .u32 0, .int .u32 0] 47 (0, 0)) = W := ⟨_, rfl⟩
  rw [hW] at BX
  have MW := Aside0.mk (M.out.then BX.1)
  have Z := Aside0.mk BX.2
  have BB := Aside0.mk BX.1
  clear h BX
  go_enter Try.func32, Try.ntmps32
  go_wp2_with (first
    | (go_at_call 66; (with_reducible refine (FD.out _ BB.out).mono ?_); rintro e w2 ⟨rfl, s⟩; have S := Aside0.mk (MStep.after BB.out s); have Z := Aside0.mk (box_keep M.out Z.out (Nat.le_refl _) s); obtain ⟨v2, m2, _⟩ := s.at_; have MW := Aside0.mk m2; have m0 := fun o => (m2.then (below_alloc (Below.refl _ _) o)).cell 0; simp only [mmuCells, List.getElem?_toArray, List.getElem?_cons_zero, List.getElem?_cons_succ] at m0; clear m2 s)
    | (go_at_call 41; (with_reducible refine (RG.out _ _ _ (MW.out.then (below_alloc (Below.refl _ _) _))).mono ?_); rintro e w3 ⟨rfl, rfl⟩)
    | (refine wpList_store_row rfl 47 (.tmp 7) (.tmp 39) rfl w.heap.size #[.int .i64 0, .int .u32 0, .int .u32 0] rfl rfl _ _ (row_then Z.out (below_alloc (Below.refl _ _) _)) infoF rfl (by kernel_rfl) ?_))
  refine bodyPost_ret (results_tc rfl _ _ (w.heap.size) 47 #[.int .i64 0, .int .u32 0, .int .u32 0] (0, 0) _ rfl (setRow_heap _ _ _ _ 47 _ (row_then Z.out (below_alloc (Below.refl _ _) _))) Try.underlying47 rfl infoF) rfl ⟨rfl, MStep.setRow (S.out.then (below_alloc (Below.refl _ _) _)) (by omega) (row_then Z.out (below_alloc (Below.refl _ _) _)) (by unfold mTy; decide) _⟩
theorem findF_fit {T : Tabs} {ps : List (Int × Int)} {l : List Int} {va n : Int} {u wr : Bool} (h : (findF T ps l va n u wr).2.1 = 0) : (findF T ps l va n u wr).1 + n ≤ l.length ∧ (findF T ps l va n u wr).2 = noF := by
  unfold findF at h ⊢
  split at h
  · rename_i hm
    rw [if_pos hm]
    split at h
    · rename_i hl; rw [if_pos hl]; exact ⟨hl, rfl⟩
    · cases (show (1 : Int) = 0 from h)
  · rename_i hm
    rw [if_neg hm]
    split at h
    · rename_i hf; exact absurd h hf
    · rename_i hf
      rw [if_neg hf]
      split at h
      · rename_i hl; rw [if_pos hl]; exact ⟨hl, rfl⟩
      · cases (show (1 : Int) = 0 from h)
theorem findF_r {W : World} {base : Nat} {L : Loc} {v : Value} {T : Tabs} {ps : List (Int × Int)} {l : List Int} (h : MmuAt W base L v T ps l) (va n : Int) (hv : R32 va) (u wr : Bool) : R32 (findF T ps l va n u wr).1 := by
  have z : R32 (0 : Int) := ⟨by decide, by decide⟩
  unfold findF
  split
  · split
    · exact hv
    · exact z
  · split
    · exact z
    · split
      · exact placeE_r _ _
      · exact z
theorem take_one (l : List Int) (a : Nat) (h : a < l.length) : leN ((l.drop a).take 1) = l.getD a 0 := by
  rw [List.drop_eq_getElem_cons h, List.getD_eq_getElem?_getD, List.getElem?_eq_getElem h]
  show l[a] + 256 * 0 = l[a]
  omega
theorem peek_call (w : World) (base : Nat) (L : Loc) (v : Value) (T : Tabs) (ps : List (Int × Int)) (l : List Int) (va : Int) (u : Bool) (hv : R32 va) (h : MmuAt w base L v T ps l) :
    Calls Try.prog 32 #[.pointer (some ⟨L.m, 0, none⟩), .int .u32 va, .bool u] w fun e w' => e = .returned (.tuple #[.int .u8 (peekF T ps l va u).1, fltV (peekF T ps l va u).2]) ∧ MStep w w' base L v T ps l := by
  have FD := Aside0.mk (fun W (hW : Below w.heap.size w W) => find_call W base L v T ps l va 1 u false false hv (by decide) (h.then hW))
  rw [findP_keep] at FD
  unfold accV at FD
  have hr := findF_r h va 1 hv u false
  have hf := @findF_fit T ps l va 1 u false
  unfold peekF
  rw [show (((1 : Nat) : Int)) = 1 from rfl] at FD
  generalize findF T ps l va 1 u false = r at *
  obtain ⟨x, fk, fv, fi⟩ := r
  by_cases hk : fk = 0
  · obtain ⟨h1, h2⟩ := hf hk
    simp only [noF, Prod.mk.injEq] at h2
    obtain ⟨rfl, rfl, rfl⟩ := h2
    rw [if_neg (by simp)]
    have h1 : x + 1 ≤ l.length := h1
    have hr : 0 ≤ x ∧ x < 4294967296 := hr
    have hy := h.by_.get x.toNat
    refine peek_ok w base L v T ps l va x u h (l.getD x.toNat 0) (by omega) FD ⟨fun W v' ps' k => ?_⟩
    exact get_i W base L.r L.b l.length L.c l k.by_ x 1 hr.1 hr.2 k.ram (by decide) h1 (by decide) _ (take_one l x.toNat (by omega))
  · rw [if_pos hk]
    exact peek_flt w base L v T ps l va x u h fk fv fi (beq_eq_false_iff_ne.mpr hk) FD
end Go.Proofs.Ytiogbgjeimdgmaa.MmuWalk
/- The MMU's New, Set, Clear, Drop, Buffered, walked. -/
namespace Go.Proofs.Ytiogbgjeimdgmaa.MmuWalk
open Go.RowKit Go.Proofs.Ytiogbgjeimdgmaa.Aid Go.Proofs.YtiogbgjeimdgmaaW.PrintWords Go.Proofs.YtiogbgjeimdgmaaW.PrintLast Go.Proofs.YtiogbgjeimdgmaaW.PrintMore
open Go.Proofs.Ytiogbgjeimdgmaa.RamWalk (RamAt Bytes leN leN_bounds get_i get_bus_i size_n)
open Go.Proofs.Ytiogbgjeimdgmaa.TlbWalk (TlbAt Kept2 putP dropP posP entP nil2 tnew_call clear_call drop_call pages_call)
attribute [local go_sem] max2_int min2_int max_two min_two max_three min_three max_four min_four   -- for this text's walks alone
set_option linter.unusedVariables false
set_option linter.unusedSimpArgs false
def noT : Tabs := ⟨0, 0, 0, 0, 0⟩
theorem noT_ok : noT.ok := by unfold noT Tabs.ok; decide
theorem mnew_call (w : World) (base gr b c : Nat) (l : List Int) (h : RamAt w base gr (.slice (some ⟨b, 0, none⟩) l.length c) l) (hb : Bytes l) :
    Calls Try.prog 18 #[.pointer (some ⟨gr, 0, none⟩)] w fun e w' => ∃ m t, e = .returned (.pointer (some ⟨m, 0, none⟩)) ∧ MmuAt w' base ⟨m, gr, b, c, t⟩ (.slice none 0 0) noT [] l ∧ Below w.heap.size w w' ∧ w.heap.size ≤ m ∧ w.heap.size ≤ t := by
  have H := Aside0.mk h
  have HB := Aside0.mk hb
  clear h hb
  go_enter Try.func18, Try.ntmps18
  go_wp2_with (first
    | (go_at_call 56; (with_reducible refine (tnew_call _).mono ?_); rintro e w1 ⟨t, rfl, ht, hb1⟩; have T1 := Aside0.mk ht; have B1 := Aside0.mk hb1; clear ht hb1))
  go_ret
  have hl := H.out.lt
  have hg := T1.out.2.1
  have bx := below_alloc (Below.refl w1.heap.size w1) (.cells #[.pointer (some ⟨gr, 0, none⟩), .pointer (some ⟨t, 0, none⟩), .int .u32 0, .int .u32 0, .int .u32 0, .int .u32 0, .int .u32 0] 107 (0, 0))
  refine ⟨_, t, rfl, ⟨blk_new _ _, ?_, (H.out.then B1.out).then bx, (T1.out.lower ?_).then bx, HB.out, noT_ok, fun p hp => by cases hp⟩, below_step B1.out bx, B1.out.size, hg⟩
  · have := H.out.2.1; have := B1.out.size; show base ≤ w1.heap.size; omega
  · have := H.out.2.1; omega
theorem m_put1 {W : World} {base : Nat} {L : Loc} {v : Value} {T T' : Tabs} {ps : List (Int × Int)} {l : List Int} (h : MmuAt W base L v T ps l) (hT : T'.ok) (j : Nat) (x : Value)
    (hb : (W.setCell ⟨L.m, j, none⟩ x).heap[L.m]? = some (.cells (mmuCells L.r L.t T') 107 (0, 0))) : MmuAt (W.setCell ⟨L.m, j, none⟩ x) base L v T' ps l ∧ Chg (foot L v) W (W.setCell ⟨L.m, j, none⟩ x) := by
  obtain ⟨b1, b2, b3, b4⟩ := h.m_ne
  have e : ∀ i, i ≠ L.m → (W.setCell ⟨L.m, j, none⟩ x).heap[i]? = W.heap[i]? := fun i hi => Below.heap_setCell W ⟨L.m, j, none⟩ _ i hi
  refine ⟨⟨hb, h.ge, ⟨(e _ (fun c => b1 c.symm)).trans h.ram.1, h.ram.2.1, own_keep h.ram.2.2.1 (fun i hi => e i (fun c => b2 (by simp only [Value.ownBlock, Option.some.injEq] at hi; omega))), h.ram.2.2.2⟩,
    ⟨(e _ (fun c => b3 c.symm)).trans h.tlb.1, h.tlb.2.1, own_keep h.tlb.2.2.1 (fun i hi => e i (fun c => b4 (by rw [← c, hi]))), h.tlb.2.2.2⟩, h.by_, hT, h.ents⟩, ⟨rfl, rfl, rfl, by simp [World.setCell], fun i hi hf => e i (fun c => hf (.inl c))⟩⟩
theorem m_put5 {W : World} {base : Nat} {L : Loc} {v : Value} {T : Tabs} {ps : List (Int × Int)} {l : List Int} (h : MmuAt W base L v T ps l) (T' : Tabs) (hT : T'.ok) :
    MStep W (((((W.setCell ⟨L.m, 2, none⟩ (.int .u32 T'.p0b)).setCell ⟨L.m, 3, none⟩ (.int .u32 T'.p0l)).setCell ⟨L.m, 4, none⟩ (.int .u32 T'.sb)).setCell ⟨L.m, 5, none⟩ (.int .u32 T'.sl)).setCell ⟨L.m, 6, none⟩ (.int .u32 T'.men)) base L v T' ps l ∧
    MmuAt (((((W.setCell ⟨L.m, 2, none⟩ (.int .u32 T'.p0b)).setCell ⟨L.m, 3, none⟩ (.int .u32 T'.p0l)).setCell ⟨L.m, 4, none⟩ (.int .u32 T'.sb)).setCell ⟨L.m, 5, none⟩ (.int .u32 T'.sl)).setCell ⟨L.m, 6, none⟩ (.int .u32 T'.men)) base L v T' ps l := by
  obtain ⟨t1, t2, t3, t4, t5⟩ := h.ok
  obtain ⟨s1, s2, s3, s4, s5⟩ := hT
  obtain ⟨m1, k1⟩ := m_put1 h (T' := ⟨T'.p0b, T.p0l, T.sb, T.sl, T.men⟩) ⟨s1, t2, t3, t4, t5⟩ 2 (.int .u32 T'.p0b) (blk_put h.blk 2 _ rfl)
  generalize W.setCell ⟨L.m, 2, none⟩ (.int .u32 T'.p0b) = W1 at *
  obtain ⟨m2, k2⟩ := m_put1 m1 (T' := ⟨T'.p0b, T'.p0l, T.sb, T.sl, T.men⟩) ⟨s1, s2, t3, t4, t5⟩ 3 (.int .u32 T'.p0l) (blk_put m1.blk 3 _ rfl)
  generalize W1.setCell ⟨L.m, 3, none⟩ (.int .u32 T'.p0l) = W2 at *
  obtain ⟨m3, k3⟩ := m_put1 m2 (T' := ⟨T'.p0b, T'.p0l, T'.sb, T.sl, T.men⟩) ⟨s1, s2, s3, t4, t5⟩ 4 (.int .u32 T'.sb) (blk_put m2.blk 4 _ rfl)
  generalize W2.setCell ⟨L.m, 4, none⟩ (.int .u32 T'.sb) = W3 at *
  obtain ⟨m4, k4⟩ := m_put1 m3 (T' := ⟨T'.p0b, T'.p0l, T'.sb, T'.sl, T.men⟩) ⟨s1, s2, s3, s4, t5⟩ 5 (.int .u32 T'.sl) (blk_put m3.blk 5 _ rfl)
  generalize W3.setCell ⟨L.m, 5, none⟩ (.int .u32 T'.sl) = W4 at *
  obtain ⟨m5, k5⟩ := m_put1 m4 (T' := T') ⟨s1, s2, s3, s4, s5⟩ 6 (.int .u32 T'.men) (blk_put m4.blk 6 _ rfl)
  generalize W4.setCell ⟨L.m, 6, none⟩ (.int .u32 T'.men) = W5 at *
  have f : ∀ {A : World} (i : Nat), i < A.heap.size → foot L v i → foot L v i := fun i _ h => h
  exact ⟨⟨⟨v, m5, NextRow.same _ _⟩, (((k1.trans k2 (f (A := W))).trans k3 (f (A := W))).trans k4 (f (A := W))).trans k5 (f (A := W))⟩, m5⟩
theorem MStep.chain {W W1 W2 : World} {base : Nat} {L : Loc} {v : Value} {T : Tabs} {ps : List (Int × Int)} {l : List Int} (b : Chg (foot L v) W W1) (h : MStep W1 W2 base L v T ps l) : MStep W W2 base L v T ps l := by
  obtain ⟨⟨v1, m1, n1⟩, c1⟩ := h
  exact ⟨⟨v1, m1, n1.up b.size⟩, b.trans c1 (fun i _ f => f)⟩
set_option maxRecDepth 100000 in
theorem mset_call (w : World) (base : Nat) (L : Loc) (v : Value) (T T' : Tabs) (ps : List (Int × Int)) (l : List Int) (h : MmuAt w base L v T ps l) (hT : T'.ok) :
    Calls Try.prog 20 #[.pointer (some ⟨L.m, 0, none⟩), .agg #[.int .u32 T'.p0b, .int .u32 T'.p0l, .int .u32 T'.sb, .int .u32 T'.sl, .int .u32 T'.men]] w fun e w' => e = .returned (.tuple #[]) ∧ MStep w w' base L v T' [] l := by
  have M := Aside0.mk h
  have BX := box1 w (.cells #[.int .u32 T'.p0b, .int .u32 T'.p0l, .int .u32 T'.sb, .int .u32 T'.sl, .int .u32 T'.men] 25 (0, 0))
  obtain ⟨W, hW⟩ : ∃ W, w.alloc (.cells #[.int .u32 T'.p0b, .int .u32 T'.p0l, .int .u32 T'.sb, .int .u32 T'.sl, .int .u32 T'.men] 25 (0, 0)) = W := ⟨_, rfl⟩
  rw [hW] at BX
  have MW := Aside0.mk (M.out.then BX.1)
  have BB := Aside0.mk BX.1
  have P5 := Aside0.mk (m_put5 MW.out T' hT)
  have d0 := cell_of_row _ _ 0 _ _ _ BX.2
  have d1 := cell_of_row _ _ 1 _ _ _ BX.2
  have d2 := cell_of_row _ _ 2 _ _ _ BX.2
  have d3 := cell_of_row _ _ 3 _ _ _ BX.2
  have d4 := cell_of_row _ _ 4 _ _ _ BX.2
  have c2 := MW.out.cell 2
  have c3 := MW.out.cell 3
  have c4 := MW.out.cell 4
  have c5 := MW.out.cell 5
  have c6 := MW.out.cell 6
  have f2 := MW.out.free 2
  have f3 := MW.out.free 3
  have f4 := MW.out.free 4
  have f5 := MW.out.free 5
  have f6 := MW.out.free 6
  simp only [mmuCells, List.getElem?_toArray, List.getElem?_cons_zero, List.getElem?_cons_succ] at d0 d1 d2 d3 d4 c2 c3 c4 c5 c6
  have c1 := P5.out.2.cell 1
  simp only [mmuCells, List.getElem?_toArray, List.getElem?_cons_zero, List.getElem?_cons_succ] at c1
  clear h BX
  go_enter Try.func20, Try.ntmps20
  go_wp2_with (first
    | (go_at_call 57; (with_reducible refine (clear_call _ _ _ _ _ P5.out.2.tlb).mono ?_); rintro e w1 ⟨rfl, ht, hk⟩; have T1 := Aside0.mk ht; have K1 := Aside0.mk hk; clear ht hk))
  first | go_end0 | refine bodyPost_ret (results_none rfl _ _ _) rfl ?_
  exact ⟨rfl, MStep.after BB.out (MStep.chain P5.out.1.chg (P5.out.2.tlb_step T1.out K1.out (NextRow.nil _ _) (fun p hp => by cases hp)))⟩
end Go.Proofs.Ytiogbgjeimdgmaa.MmuWalk
/- The MMU's pieces: what they are, and one round of its loop. -/
namespace Go.Proofs.Ytiogbgjeimdgmaa.MmuWalk
open Go.RowKit Go.Proofs.Ytiogbgjeimdgmaa.Aid Go.Proofs.YtiogbgjeimdgmaaW.PrintWords Go.Proofs.YtiogbgjeimdgmaaW.PrintLast Go.Proofs.YtiogbgjeimdgmaaW.PrintMore
open Go.Proofs.Ytiogbgjeimdgmaa.RamWalk (RamAt Bytes leN)
open Go.Proofs.Ytiogbgjeimdgmaa.TlbWalk (TlbAt Kept2 putP dropP posP entP nil2 own_some own_val)
attribute [local go_sem] max2_int min2_int max_two min_two max_three min_three max_four min_four   -- for this text's walks alone
set_option linter.unusedVariables false
set_option linter.unusedSimpArgs false
/-- A piece: its address, where it lies, how many bytes. -/
abbrev Pc := Int × Int × Nat
/-- How many bytes of an address's page are meant. -/
def stepN (va n : Int) : Int := if n < 512 - va % 512 then n else 512 - va % 512
/-- Page by page: from a buffer, an address and a number of bytes on: the pieces, the fault, the buffer behind. -/
inductive Pcs (T : Tabs) (l : List Int) (u wr keep : Bool) : List (Int × Int) → Int → Int → List Pc → Flt → List (Int × Int) → Prop
  | done {ps va n} (h : n ≤ 0) : Pcs T l u wr keep ps va n [] noF ps
  | stop {ps va n} (h : 0 < n) (hf : (findF T ps l va (stepN va n) u wr).2.1 ≠ 0) : Pcs T l u wr keep ps va n [] (findF T ps l va (stepN va n) u wr).2 (findP T ps l va u wr keep)
  | more {ps va n xs f ps'} (h : 0 < n) (hf : (findF T ps l va (stepN va n) u wr).2.1 = 0) (k : Pcs T l u wr keep (findP T ps l va u wr keep) ((va + stepN va n) % 4294967296) (n - stepN va n) xs f ps') :
      Pcs T l u wr keep ps va n (if f.1 = 0 then (va, (findF T ps l va (stepN va n) u wr).1, (stepN va n).toNat) :: xs else []) f ps'
theorem stepN_pos {va n : Int} (h : 0 < n) : 0 < stepN va n ∧ stepN va n ≤ n ∧ stepN va n ≤ 512 := by unfold stepN; split <;> omega
theorem Pcs.det {T : Tabs} {l : List Int} {u wr keep : Bool} {ps : List (Int × Int)} {va n : Int} {xs : List Pc} {f : Flt} {ps' : List (Int × Int)} (h : Pcs T l u wr keep ps va n xs f ps') : ∀ {ys g ps2}, Pcs T l u wr keep ps va n ys g ps2 → ys = xs ∧ g = f ∧ ps2 = ps' := by
  induction h with
  | done h => intro ys g ps2 k; cases k with
    | done _ => exact ⟨rfl, rfl, rfl⟩
    | stop h' _ => omega
    | more h' _ _ => omega
  | stop h hf => intro ys g ps2 k; cases k with
    | done h' => omega
    | stop _ _ => exact ⟨rfl, rfl, rfl⟩
    | more _ hf' _ => exact absurd hf' hf
  | more h hf k ih => intro ys g ps2 k2; cases k2 with
    | done h' => omega
    | stop _ hf' => exact absurd hf hf'
    | more _ _ k3 =>
      obtain ⟨rfl, rfl, rfl⟩ := ih k3
      exact ⟨rfl, rfl, rfl⟩
theorem Pcs.good {T : Tabs} {l : List Int} {u wr keep : Bool} {ps : List (Int × Int)} {va n : Int} {xs : List Pc} {f : Flt} {ps' : List (Int × Int)} (h : Pcs T l u wr keep ps va n xs f ps') : (f.1 = 0 → f = noF) ∧ (f.1 ≠ 0 → xs = []) := by
  induction h with
  | done h => exact ⟨fun _ => rfl, fun h => absurd rfl h⟩
  | stop h hf => exact ⟨fun h => absurd h hf, fun _ => rfl⟩
  | more h hf k ih => exact ⟨ih.1, fun h => by rw [if_neg h]⟩
def pc5 (u wr : Bool) (p : Pc) : List Value := [.int .u32 p.1, .bool u, .bool wr, .int .u32 p.2.1, .int .i64 (p.2.2 : Nat)]
def pcs5 (u wr : Bool) (xs : List Pc) : List Value := xs.flatMap (pc5 u wr)
theorem pcs5_append (u wr : Bool) (a b : List Pc) : pcs5 u wr (a ++ b) = pcs5 u wr a ++ pcs5 u wr b := List.flatMap_append
theorem infoPc : (Try.prog.info? 123).map (fun i => (i.zero, i.size, i.bytes)) = some (some (.agg #[.int .u32 0, .bool false, .bool false, .int .u32 0, .int .i64 0]), 5, 24) := by kernel_rfl
/-- Rows and boxes of other kinds stay where the MMU is turned. -/
theorem box_ty {W W' : World} {base : Nat} {L : Loc} {v : Value} {T T' : Tabs} {ps ps' : List (Int × Int)} {l l' : List Int} {g : Nat} {cs : Array Value} {ty : TypeId} {fr : Nat × Nat} (m : MmuAt W base L v T ps l) (hg : W.heap[g]? = some (.cells cs ty fr)) (ht : ¬ mTy ty) (s : MStep W W' base L v T' ps' l') : W'.heap[g]? = some (.cells cs ty fr) :=
  (s.chg.block g (Array.getElem?_eq_some_iff.1 hg).1 (fun f => m.ne_ty hg ht g (.inl f) rfl)).trans hg
theorem row_ty {W : World} {base e s n : Nat} {v : Value} {xs : List Value} (h : W.ownsRow base e s v n xs) (i : Nat) (hi : v.ownBlock = some i) : ∃ cur, W.heap[i]? = some (.cells cur e (0, 0)) := by
  rcases h.2 with ⟨rfl, _⟩ | ⟨b, c, cur, rfl, _, hh, _⟩
  · simp [Value.ownBlock] at hi
  · simp only [Value.ownBlock, Option.some.injEq] at hi
    subst hi
    exact ⟨cur, hh⟩
theorem own_ty {W W' : World} {base B e s n : Nat} {L : Loc} {v vo : Value} {T T' : Tabs} {ps ps' : List (Int × Int)} {l l' : List Int} {xs : List Value} (m : MmuAt W base L v T ps l) (ho : W.ownsRow B e s vo n xs) (ht : ¬ mTy e) (st : MStep W W' base L v T' ps' l') : W'.ownsRow B e s vo n xs :=
  own_keep ho fun i hi => by
    obtain ⟨cur, hc⟩ := row_ty ho i hi
    exact st.chg.block i (Array.getElem?_eq_some_iff.1 hc).1 (fun f => m.ne_ty hc ht i (.inl f) rfl)
/-- A row of the call's own grows. -/
theorem MStep.grown {w W W' : World} {base e s n : Nat} {L : Loc} {v vo : Value} {T : Tabs} {ps : List (Int × Int)} {l : List Int} {xs : List Value} (st : MStep w W base L v T ps l) (ho : W.ownsRow w.heap.size e s vo n xs) (ht : ¬ mTy e) (g : W.grownBy W' vo.ownBlock) : MStep w W' base L v T ps l := by
  obtain ⟨⟨v1, m, n1⟩, c⟩ := st
  refine ⟨⟨v1, m.keep (fun i hi => g.block i (by obtain ⟨cs, ty, h', _⟩ := m.types i hi; exact (Array.getElem?_eq_some_iff.1 h').1) (fun e' => ?_)), n1⟩, ⟨g.os.trans c.os, g.tape.trans c.tape, g.output.trans c.output, Nat.le_trans c.size g.size, fun i hi hf => (g.block i (Nat.lt_of_lt_of_le hi c.size) (fun e' => ?_)).trans (c.block i hi hf)⟩⟩
  · obtain ⟨cur, hc⟩ := row_ty ho i e'.symm
    exact m.ne_ty hc ht i hi rfl
  · rcases ho.2 with ⟨rfl, _⟩ | ⟨b, cc, cur, rfl, hb, _⟩
    · simp [Value.ownBlock] at e'
    · simp only [Value.ownBlock, Option.some.injEq] at e'
      omega
end Go.Proofs.Ytiogbgjeimdgmaa.MmuWalk
/- The MMU's pieces, walked. -/
namespace Go.Proofs.Ytiogbgjeimdgmaa.MmuWalk
open Go.RowKit Go.Proofs.Ytiogbgjeimdgmaa.Aid Go.Proofs.YtiogbgjeimdgmaaW.PrintWords Go.Proofs.YtiogbgjeimdgmaaW.PrintLast Go.Proofs.YtiogbgjeimdgmaaW.PrintMore
open Go.Proofs.Ytiogbgjeimdgmaa.RamWalk (RamAt Bytes leN)
open Go.Proofs.Ytiogbgjeimdgmaa.TlbWalk (TlbAt Kept2 putP dropP posP entP nil2 own_some own_val own_then)
attribute [local go_sem] max2_int min2_int max_two min_two max_three min_three max_four min_four   -- for this text's walks alone
set_option linter.unusedVariables false
set_option linter.unusedSimpArgs false
theorem mine_lt' {W : World} {base : Nat} {L : Loc} {v : Value} {T : Tabs} {ps : List (Int × Int)} {l : List Int} (h : MmuAt W base L v T ps l) (i : Nat) (k : mine L v i) : i < W.heap.size := by
  obtain ⟨cs, ty, h', _⟩ := h.types i k
  exact (Array.getElem?_eq_some_iff.1 h').1
theorem fill_row' {W : World} {g : Nat} {a b c : Value} (h : W.heap[g]? = some (.cells #[a, b, c] 47 (0, 0))) (x y z : Value) : (((W.setCell ⟨g, 0, none⟩ x).setCell ⟨g, 1, none⟩ y).setCell ⟨g, 2, none⟩ z).heap[g]? = some (.cells #[x, y, z] 47 (0, 0)) :=
  blk_put (blk_put (blk_put h 0 x rfl) 1 y rfl) 2 z rfl
/-- Boxes of other kinds, made by the call itself, are stored into. -/
theorem MStep.other {w W W' : World} {base : Nat} {L : Loc} {v : Value} {T : Tabs} {ps : List (Int × Int)} {l : List Int} {S : Nat → Prop} (st : MStep w W base L v T ps l) (c : Chg S W W') (hS : ∀ i, S i → w.heap.size ≤ i ∧ ∃ cs ty fr, W.heap[i]? = some (.cells cs ty fr) ∧ ¬ mTy ty) : MStep w W' base L v T ps l := by
  obtain ⟨⟨v1, m, n1⟩, k⟩ := st
  refine ⟨⟨v1, m.keep (fun i hi => c.block i (mine_lt' m i hi) (fun e => ?_)), n1⟩, k.trans c (fun i hi e => absurd (hS i e).1 (by omega))⟩
  obtain ⟨_, cs, ty, fr, h, ht⟩ := hS i e
  exact m.ne_ty h ht i hi rfl
theorem MStep.via {W W1 W2 : World} {base : Nat} {L : Loc} {v v1 : Value} {T : Tabs} {ps : List (Int × Int)} {l : List Int} (b : Chg (foot L v) W W1) (n : NextRow W v v1) (h : MStep W1 W2 base L v1 T ps l) : MStep W W2 base L v T ps l := by
  obtain ⟨⟨v2, m2, n2⟩, c2⟩ := h
  exact ⟨⟨v2, m2, n.trans n2 b.size⟩, b.trans c2 (fun i hi f => foot_of n i hi f)⟩
theorem put4_chg (W : World) (a b : Nat) (x0 x y z : Value) : Chg (fun i => i = a ∨ i = b) W ((((W.setCell ⟨a, 3, none⟩ x0).setCell ⟨b, 0, none⟩ x).setCell ⟨b, 1, none⟩ y).setCell ⟨b, 2, none⟩ z) :=
  ⟨rfl, rfl, rfl, by simp [World.setCell], fun i hi hf => (Below.heap_setCell _ ⟨b, 2, none⟩ z i (fun e => hf (.inr e))).trans ((Below.heap_setCell _ ⟨b, 1, none⟩ y i (fun e => hf (.inr e))).trans ((Below.heap_setCell _ ⟨b, 0, none⟩ x i (fun e => hf (.inr e))).trans (Below.heap_setCell W ⟨a, 3, none⟩ x0 i (fun e => hf (.inl e)))))⟩
theorem pput (W : World) {a b : Nat} {va j pa fk fv fi : Int} {u wt : Bool} {z0 z1 z2 : Value} (hab : a ≠ b) (ha : W.heap[a]? = some (.cells #[.int .u32 va, .bool u, .bool wt, .int .u32 0, .int .i64 j] 123 (0, 0))) (hb : W.heap[b]? = some (.cells #[z0, z1, z2] 47 (0, 0))) :
    ((((W.setCell ⟨a, 3, none⟩ (.int .u32 pa)).setCell ⟨b, 0, none⟩ (.int .i64 fk)).setCell ⟨b, 1, none⟩ (.int .u32 fv)).setCell ⟨b, 2, none⟩ (.int .u32 fi)).heap[a]? = some (.cells #[.int .u32 va, .bool u, .bool wt, .int .u32 pa, .int .i64 j] 123 (0, 0)) ∧
    ((((W.setCell ⟨a, 3, none⟩ (.int .u32 pa)).setCell ⟨b, 0, none⟩ (.int .i64 fk)).setCell ⟨b, 1, none⟩ (.int .u32 fv)).setCell ⟨b, 2, none⟩ (.int .u32 fi)).heap[b]? = some (.cells #[.int .i64 fk, .int .u32 fv, .int .u32 fi] 47 (0, 0)) := by
  have e1 : (W.setCell ⟨a, 3, none⟩ (.int .u32 pa)).heap[a]? = some (.cells #[.int .u32 va, .bool u, .bool wt, .int .u32 pa, .int .i64 j] 123 (0, 0)) := blk_put ha 3 _ rfl
  have e2 : (W.setCell ⟨a, 3, none⟩ (.int .u32 pa)).heap[b]? = some (.cells #[z0, z1, z2] 47 (0, 0)) := (Below.heap_setCell W ⟨a, 3, none⟩ _ b (fun e => hab e.symm)).trans hb
  generalize W.setCell ⟨a, 3, none⟩ (.int .u32 pa) = V at *
  exact ⟨(Below.heap_setCell _ ⟨b, 2, none⟩ _ a hab).trans ((Below.heap_setCell _ ⟨b, 1, none⟩ _ a hab).trans ((Below.heap_setCell V ⟨b, 0, none⟩ _ a hab).trans e1)), fill_row' e2 _ _ _⟩
/-- At the head of the loop of pieces. -/
structure PHead (w wr : World) (base : Nat) (L : Loc) (v : Value) (T : Tabs) (ps0 : List (Int × Int)) (l : List Int) (u wr_ keep : Bool) (va0 n0 va n : Int) (vo : Value) (acc : List Pc) (ps : List (Int × Int)) : Prop where
  st : MStep w wr base L v T ps l
  box : wr.heap[w.heap.size]? = some (.cells #[.int .i64 0, .int .u32 0, .int .u32 0] 47 (0, 0))
  row : wr.ownsRow w.heap.size 123 5 vo acc.length (pcs5 u wr_ acc)
  vr : R32 va
  n1 : n ≤ n0
  n2 : acc.length + n ≤ n0 ∨ (acc = [] ∧ n ≤ 0)
  n3 : 0 ≤ n ∨ n = n0
  go : ∀ xs f ps', Pcs T l u wr_ keep ps va n xs f ps' → Pcs T l u wr_ keep ps0 va0 n0 (if f.1 = 0 then acc ++ xs else []) f ps'
theorem pvals {w wr W w2 : World} {base : Nat} {L : Loc} {v v1 vo : Value} {T : Tabs} {ps0 ps ps2 : List (Int × Int)} {l : List Int} {u wt keep : Bool} {va0 n0 va n pa fk fv fi : Int} {acc : List Pc} {jn : Nat} (P : PHead w wr base L v T ps0 l u wt keep va0 n0 va n vo acc ps) (nx : NextRow w v v1)
    (BB : Below wr.heap.size wr W ∧ W.heap[wr.heap.size]? = some (.cells #[.int .u32 va, .bool u, .bool wt, .int .u32 0, .int .i64 jn] 123 (0, 0)) ∧ W.heap[wr.heap.size + 1]? = some (.cells #[.int .i64 0, .int .u32 0, .int .u32 0] 47 (0, 0))) (hsz : W.heap.size = wr.heap.size + 2) (m : MmuAt W base L v1 T ps l) (s : MStep W w2 base L v1 T ps2 l)
    (a15 : w2.heap[wr.heap.size]? = some (.cells #[.int .u32 va, .bool u, .bool wt, .int .u32 0, .int .i64 jn] 123 (0, 0))) (a16 : w2.heap[wr.heap.size + 1]? = some (.cells #[.int .i64 0, .int .u32 0, .int .u32 0] 47 (0, 0))) :
    MStep w ((((w2.setCell ⟨wr.heap.size, 3, none⟩ (.int .u32 pa)).setCell ⟨wr.heap.size + 1, 0, none⟩ (.int .i64 fk)).setCell ⟨wr.heap.size + 1, 1, none⟩ (.int .u32 fv)).setCell ⟨wr.heap.size + 1, 2, none⟩ (.int .u32 fi)) base L v T ps2 l ∧
    ((((w2.setCell ⟨wr.heap.size, 3, none⟩ (.int .u32 pa)).setCell ⟨wr.heap.size + 1, 0, none⟩ (.int .i64 fk)).setCell ⟨wr.heap.size + 1, 1, none⟩ (.int .u32 fv)).setCell ⟨wr.heap.size + 1, 2, none⟩ (.int .u32 fi)).heap[wr.heap.size]? = some (.cells #[.int .u32 va, .bool u, .bool wt, .int .u32 pa, .int .i64 jn] 123 (0, 0)) ∧
    ((((w2.setCell ⟨wr.heap.size, 3, none⟩ (.int .u32 pa)).setCell ⟨wr.heap.size + 1, 0, none⟩ (.int .i64 fk)).setCell ⟨wr.heap.size + 1, 1, none⟩ (.int .u32 fv)).setCell ⟨wr.heap.size + 1, 2, none⟩ (.int .u32 fi)).heap[wr.heap.size + 1]? = some (.cells #[.int .i64 fk, .int .u32 fv, .int .u32 fi] 47 (0, 0)) ∧
    ((((w2.setCell ⟨wr.heap.size, 3, none⟩ (.int .u32 pa)).setCell ⟨wr.heap.size + 1, 0, none⟩ (.int .i64 fk)).setCell ⟨wr.heap.size + 1, 1, none⟩ (.int .u32 fv)).setCell ⟨wr.heap.size + 1, 2, none⟩ (.int .u32 fi)).heap[w.heap.size]? = some (.cells #[.int .i64 0, .int .u32 0, .int .u32 0] 47 (0, 0)) ∧
    ((((w2.setCell ⟨wr.heap.size, 3, none⟩ (.int .u32 pa)).setCell ⟨wr.heap.size + 1, 0, none⟩ (.int .i64 fk)).setCell ⟨wr.heap.size + 1, 1, none⟩ (.int .u32 fv)).setCell ⟨wr.heap.size + 1, 2, none⟩ (.int .u32 fi)).ownsRow w.heap.size 123 5 vo acc.length (pcs5 u wt acc) := by
  have C := put4_chg w2 wr.heap.size (wr.heap.size + 1) (.int .u32 pa) (.int .i64 fk) (.int .u32 fv) (.int .u32 fi)
  have PP := pput w2 (pa := pa) (fk := fk) (fv := fv) (fi := fi) (by omega) a15 a16
  generalize ((((w2.setCell ⟨wr.heap.size, 3, none⟩ (.int .u32 pa)).setCell ⟨wr.heap.size + 1, 0, none⟩ (.int .i64 fk)).setCell ⟨wr.heap.size + 1, 1, none⟩ (.int .u32 fv)).setCell ⟨wr.heap.size + 1, 2, none⟩ (.int .u32 fi)) = V at *
  have hs := P.st.chg.size
  have hbl : w.heap.size < wr.heap.size := (Array.getElem?_eq_some_iff.1 P.box).1
  have MW : MStep w w2 base L v T ps2 l := MStep.via P.st.chg nx (MStep.after BB.1 s)
  have b2 : w2.heap[w.heap.size]? = some (.cells #[.int .i64 0, .int .u32 0, .int .u32 0] 47 (0, 0)) := box_ty m (row_then P.box BB.1) (by unfold mTy; decide) s
  have o2 : w2.ownsRow w.heap.size 123 5 vo acc.length (pcs5 u wt acc) := own_ty m (own_then P.row BB.1) (by unfold mTy; decide) s
  refine ⟨MStep.other MW C (fun i hi => ?_), PP.1, PP.2, (C.block _ (Array.getElem?_eq_some_iff.1 b2).1 (fun e => by omega)).trans b2, own_keep o2 (fun i hi => C.block i ?_ (fun e => ?_))⟩
  · rcases hi with rfl | rfl
    · exact ⟨hs, _, _, _, a15, by unfold mTy; decide⟩
    · exact ⟨by omega, _, _, _, a16, by unfold mTy; decide⟩
  · obtain ⟨cur, hc⟩ := row_ty o2 i hi
    exact (Array.getElem?_eq_some_iff.1 hc).1
  · obtain ⟨cur, hc⟩ := row_ty P.row i hi
    have := (Array.getElem?_eq_some_iff.1 hc).1
    omega
theorem own_ne {w wr V w5 : World} {base n : Nat} {vo : Value} {xs : List Value} {c d e : Array Value} (ho : wr.ownsRow base 123 5 vo n xs) (g : V.grownBy w5 vo.ownBlock) (h : V.heap[wr.heap.size]? = some (.cells c 123 (0, 0))) (b : wr.heap[w.heap.size]? = some (.cells d 47 (0, 0))) (b' : V.heap[w.heap.size]? = some (.cells e 47 (0, 0))) :
    w5.heap[wr.heap.size]? = some (.cells c 123 (0, 0)) ∧ w5.heap[w.heap.size]? = some (.cells e 47 (0, 0)) := by
  refine ⟨(g.block _ (Array.getElem?_eq_some_iff.1 h).1 (fun q => ?_)).trans h, (g.block _ (Array.getElem?_eq_some_iff.1 b').1 (fun q => ?_)).trans b'⟩
  · obtain ⟨cur, hc⟩ := row_ty ho _ q.symm
    exact absurd (Array.getElem?_eq_some_iff.1 hc).1 (Nat.lt_irrefl _)
  · obtain ⟨cur, hc⟩ := row_ty ho _ q.symm
    rw [b] at hc
    simp at hc
theorem papp {w wr V w5 : World} {base : Nat} {L : Loc} {v vo : Value} {T : Tabs} {ps0 ps ps2 : List (Int × Int)} {l : List Int} {u wt keep : Bool} {va0 n0 va n pa : Int} {acc : List Pc} {jn : Nat} {c3 : Array Value} (P : PHead w wr base L v T ps0 l u wt keep va0 n0 va n vo acc ps) (s : MStep w V base L v T ps2 l)
    (h1 : V.heap[wr.heap.size]? = some (.cells #[.int .u32 va, .bool u, .bool wt, .int .u32 pa, .int .i64 jn] 123 (0, 0))) (h3 : V.heap[w.heap.size]? = some (.cells c3 47 (0, 0))) (o : V.ownsRow w.heap.size 123 5 vo acc.length (pcs5 u wt acc)) (hg : V.grownBy w5 vo.ownBlock) :
    MStep w w5 base L v T ps2 l ∧ w5.heap[wr.heap.size]? = some (.cells #[.int .u32 va, .bool u, .bool wt, .int .u32 pa, .int .i64 jn] 123 (0, 0)) ∧ w5.heap[w.heap.size]? = some (.cells c3 47 (0, 0)) :=
  ⟨MStep.grown s o (by unfold mTy; decide) hg, own_ne P.row hg h1 P.box h3⟩
theorem papp4 {w5 : World} {a : Nat} {va pa : Int} {u wt : Bool} {jn : Nat} (h : w5.heap[a]? = some (.cells #[.int .u32 va, .bool u, .bool wt, .int .u32 pa, .int .i64 jn] 123 (0, 0))) : w5.cell? ⟨a, 4, none⟩ = some (.int .i64 jn) := cell_of_row _ _ 4 _ _ _ h
theorem MStep.drew {w W : World} {base : Nat} {L : Loc} {v : Value} {T : Tabs} {ps : List (Int × Int)} {l : List Int} (h : MStep w W base L v T ps l) : MStep w W.drew base L v T ps l := by
  obtain ⟨⟨v1, m, n⟩, c⟩ := h
  exact ⟨⟨v1, m.keep (fun _ _ => rfl), n⟩, ⟨c.os, c.tape, c.output, c.size, c.block⟩⟩
theorem PHead.drew {w wr : World} {base : Nat} {L : Loc} {v vo : Value} {T : Tabs} {ps0 ps : List (Int × Int)} {l : List Int} {u wt keep : Bool} {va0 n0 va n : Int} {acc : List Pc} (h : PHead w wr base L v T ps0 l u wt keep va0 n0 va n vo acc ps) : PHead w wr.drew base L v T ps0 l u wt keep va0 n0 va n vo acc ps :=
  ⟨h.st.drew, h.box, h.row, h.vr, h.n1, h.n2, h.n3, h.go⟩
theorem PHead.next {w wr w5 : World} {base : Nat} {L : Loc} {v vo vo' : Value} {T : Tabs} {ps0 ps ps2 : List (Int × Int)} {l : List Int} {u wt keep : Bool} {va0 n0 va n pa : Int} {acc : List Pc} {jn : Nat} (P : PHead w wr base L v T ps0 l u wt keep va0 n0 va n vo acc ps) (hn : 0 < n) (hn6 : n0 ≤ 65536) (hj : (jn : Int) = stepN va n) (j1 : 0 < stepN va n) (j2 : stepN va n ≤ n)
    (fm : ∀ xs f ps', 0 < n → True → Pcs T l u wt keep ps2 ((va + jn) % 4294967296) (n - jn) xs f ps' → Pcs T l u wt keep ps va n (if f.1 = 0 then (va, pa, (jn : Int).toNat) :: xs else []) f ps')
    (s : MStep w w5 base L v T ps2 l) (b : w5.heap[w.heap.size]? = some (.cells #[.int .i64 0, .int .u32 0, .int .u32 0] 47 (0, 0))) (o : w5.ownsRow w.heap.size 123 5 vo' (acc.length + 1) (pcs5 u wt acc ++ [.int .u32 va, .bool u, .bool wt, .int .u32 pa, .int .i64 jn])) :
    PHead w w5 base L v T ps0 l u wt keep va0 n0 ((va + jn) % 4294967296) (n - jn) vo' (acc ++ [(va, pa, jn)]) ps2 := by
  refine ⟨s, b, ?_, ⟨by omega, by omega⟩, by have := P.n1; omega, ?_, .inl (by omega), fun xs f ps' k => ?_⟩
  · have e : pcs5 u wt (acc ++ [(va, pa, jn)]) = pcs5 u wt acc ++ [.int .u32 va, .bool u, .bool wt, .int .u32 pa, .int .i64 jn] := by rw [pcs5_append]; simp [pcs5, pc5]
    rw [e, List.length_append]; exact o
  · have := P.n2
    rw [List.length_append]
    left
    rcases this with h | h
    · simp only [List.length_singleton]; omega
    · omega
  · have := P.go _ _ _ (fm xs f ps' hn trivial k)
    by_cases hf : f.1 = 0
    · rw [if_pos hf] at this ⊢
      rw [if_pos hf, Int.toNat_natCast] at this
      rw [List.append_assoc]; exact this
    · rw [if_neg hf] at this ⊢
      exact this
set_option maxRecDepth 100000 in
set_option maxHeartbeats 4000000 in
theorem pieces_call (w : World) (base : Nat) (L : Loc) (v : Value) (T : Tabs) (ps : List (Int × Int)) (l : List Int) (va n : Int) (u wt keep : Bool) (hv : R32 va) (hn : n ≤ 65536) (hn0 : -9223372036854775808 ≤ n) (h : MmuAt w base L v T ps l) :
    Calls Try.prog 68 #[.pointer (some ⟨L.m, 0, none⟩), .int .u32 va, .int .i64 n, .bool u, .bool wt, .bool keep] w fun e w' => ∃ A c xs f ps', Pcs T l u wt keep ps va n xs f ps' ∧ e = .returned (.tuple #[.slice A xs.length c, fltV f]) ∧ MStep w w' base L v T ps' l ∧ w'.ownsRow w.heap.size 123 5 (.slice A xs.length c) xs.length (pcs5 u wt xs) := by
  have M := Aside0.mk h
  have HV := Aside0.mk hv
  have HN := Aside0.mk (And.intro hn hn0)
  have BX := Aside0.mk (box1 w (.cells #[.int .i64 0, .int .u32 0, .int .u32 0] 47 (0, 0)))
  clear h hv hn hn0
  go_enter Try.func68, Try.ntmps68
  go_wp2_with fail
  go_loopw [1, 2, 14] (fun v1 v2 v14 wq => ∃ va' n' acc ps', v1 = .int .u32 va' ∧ v2 = .int .i64 n' ∧ Aside0 (PHead w wq base L v T ps l u wt keep va n va' n' v14 acc ps')) (fun _ v2 _ _ => (intOf v2).toNat)
  case atStart =>
    refine ⟨va, n, [], ps, rfl, rfl, ⟨⟨MStep.of_below M.out BX.out.1, BX.out.2, World.ownsRow_nil _ _ _ _, HV.out, Int.le_refl _, ?_, .inr rfl, fun xs f ps' k => ?_⟩⟩⟩
    · by_cases hn : n ≤ 0
      · exact .inr ⟨rfl, hn⟩
      · exact .inl (by simp)
    · have := k.good.2
      by_cases hf : f.1 = 0
      · rw [if_pos hf]; exact k
      · rw [if_neg hf]; have e := this hf; subst e; exact k
  case round =>
    obtain ⟨va', n', acc, ps', rfl, rfl, P⟩ := hrel
    by_cases hn : n' ≤ 0
    · have hn1 : ¬ 0 < n' := by omega
      have G := Aside0.mk (P.out.go [] noF ps' (Pcs.done hn))
      clear hn
      obtain ⟨A14, c14, rfl⟩ := own_val P.out.row
      go_wp2_with (first
        | (refine wpList_store_row rfl 47 (.tmp 13) (.tmp 59) rfl w.heap.size #[.int .i64 0, .int .u32 0, .int .u32 0] rfl rfl _ _ P.out.box infoF rfl (by kernel_rfl) ?_))
      refine bodyPost_ret (results_tc rfl _ _ w.heap.size 47 #[.int .i64 0, .int .u32 0, .int .u32 0] (0, 0) _ rfl (setRow_heap _ _ _ _ 47 _ P.out.box) Try.underlying47 rfl infoF) rfl ⟨A14, c14, acc, 0, 0, 0, ps', by have := G.out; rw [if_pos (show noF.1 = 0 from rfl), List.append_nil] at this; exact this, rfl, MStep.setRow P.out.st (Nat.le_refl _) P.out.box (by unfold mTy; decide) _, own_keep P.out.row (fun i hi => setRow_other _ _ i _ (fun e => by obtain ⟨cur, hc⟩ := row_ty P.out.row i hi; rw [e, P.out.box] at hc; simp at hc))⟩
    · have hn1 : 0 < n' := by omega
      obtain ⟨j1, j2, j3⟩ := stepN_pos (va := va') hn1
      obtain ⟨r, hr⟩ : ∃ r, va' % 512 = r := ⟨_, rfl⟩
      have hr0 : 0 ≤ r ∧ r < 512 := by omega
      have hv0 : 0 ≤ va' := P.out.vr.1
      have hr1 : Int.tmod va' 512 = r := by rw [Int.tmod_eq_emod_of_nonneg hv0, hr]
      have hr2 : wrap64 r = r := wrap64_in (by omega) (by omega)
      have hr3 : wrap64 (512 - r) = 512 - r := wrap64_in (by omega) (by omega)
      obtain ⟨jn, hjn⟩ : ∃ jn : Nat, (jn : Int) = stepN va' n' := ⟨(stepN va' n').toNat, by omega⟩
      have hj : (if 512 - r < n' then 512 - r else n') = (jn : Int) := by rw [hjn]; unfold stepN; split <;> split <;> omega
      have JN := Aside0.mk (And.intro hjn (And.intro j1 (And.intro j2 j3)))
      obtain ⟨v1, m1, nx1⟩ := P.out.st.at_
      have BB := box2 wr (.cells #[.int .u32 va', .bool u, .bool wt, .int .u32 0, .int .i64 jn] 123 (0, 0)) (.cells #[.int .i64 0, .int .u32 0, .int .u32 0] 47 (0, 0))
      obtain ⟨W, hW⟩ : ∃ W, (wr.alloc (.cells #[.int .u32 va', .bool u, .bool wt, .int .u32 0, .int .i64 jn] 123 (0, 0))).alloc (.cells #[.int .i64 0, .int .u32 0, .int .u32 0] 47 (0, 0)) = W := ⟨_, rfl⟩
      rw [hW] at BB
      have BB := Aside0.mk BB
      have M1 := Aside0.mk (m1.then BB.out.1)
      have d0 := cell_of_row _ _ 0 _ _ _ BB.out.2.1
      have d1 := cell_of_row _ _ 1 _ _ _ BB.out.2.1
      have d2 := cell_of_row _ _ 2 _ _ _ BB.out.2.1
      have d4 := cell_of_row _ _ 4 _ _ _ BB.out.2.1
      simp only [List.getElem?_toArray, List.getElem?_cons_zero, List.getElem?_cons_succ] at d0 d1 d2 d4
      have FD := Aside0.mk (find_call W base L v1 T ps' l va' jn u wt keep P.out.vr (by omega) M1.out)
      have FG := Aside0.mk (@findF_fit T ps' l va' jn u wt)
      have FX := Aside0.mk (fun (h : 0 < n') => @Pcs.stop T l u wt keep ps' va' n' h)
      have FM := Aside0.mk (fun xs f ps2 (h : 0 < n') => @Pcs.more T l u wt keep ps' va' n' xs f ps2 h)
      rw [← hjn] at FX FM
      unfold accV fltV at FD
      generalize findP T ps' l va' u wt keep = ps2 at *
      generalize findF T ps' l va' jn u wt = res at *
      obtain ⟨pa, fk, fv, fi⟩ := res
      have HN1 := Aside0.mk hn1
      have NX1 := Aside0.mk nx1
      have hw4 : wrap64 (n' - jn) = n' - jn := by have := HN.out; have := P.out.n1; exact wrap64_in (by omega) (by omega)
      have hw5 : (jn : Int) % 4294967296 = jn := by omega
      clear m1 nx1 j1 j2 j3 hjn hr hr0
      have hsz : W.heap.size = wr.heap.size + 2 := by rw [← hW]; simp [World.alloc_eq]
      have HSZ := Aside0.mk hsz
      clear hsz
      have hww : ¬ wr.heap.size + 1 = w.heap.size := by have := P.out.st.chg.size; omega
      by_cases hk : fk = 0
      · subst hk
        have JP := Aside0.mk (show 0 < n' from hn1)
        go_wp2_with (first
          | (go_at_call 66; (with_reducible refine (FD.out).mono ?_); rintro e w2 ⟨rfl, s⟩; have S2 := Aside0.mk s; have A15 := Aside0.mk (box_ty M1.out BB.out.2.1 (by unfold mTy; decide) s); have A16 := Aside0.mk (box_ty M1.out BB.out.2.2 (by unfold mTy; decide) s); have e3 := cell_of_row _ _ 3 _ _ _ A15.out; have f3 := frozen_of_row _ _ 3 _ _ A15.out; have z0 := cell_of_row _ _ 0 _ _ _ A16.out; have z1 := cell_of_row _ _ 1 _ _ _ A16.out; have z2 := cell_of_row _ _ 2 _ _ _ A16.out; have g0 := frozen_of_row _ _ 0 _ _ A16.out; have g1 := frozen_of_row _ _ 1 _ _ A16.out; have g2 := frozen_of_row _ _ 2 _ _ A16.out; clear s; obtain ⟨V, hV⟩ : ∃ V, ((((w2.setCell ⟨wr.heap.size, 3, none⟩ (.int .u32 pa)).setCell ⟨wr.heap.size + 1, 0, none⟩ (.int .i64 0)).setCell ⟨wr.heap.size + 1, 1, none⟩ (.int .u32 fv)).setCell ⟨wr.heap.size + 1, 2, none⟩ (.int .u32 fi)) = V := ⟨_, rfl⟩; have PV := Aside0.mk (hV ▸ pvals P.out NX1.out BB.out HSZ.out M1.out S2.out A15.out A16.out (pa := pa) (fk := 0) (fv := fv) (fi := fi)); have x0 := cell_of_row _ _ 0 _ _ _ PV.out.2.2.1; have x1 := cell_of_row _ _ 1 _ _ _ PV.out.2.2.1; have x2 := cell_of_row _ _ 2 _ _ _ PV.out.2.2.1; have a0 := cell_of_row _ _ 0 _ _ _ PV.out.2.1; have a1 := cell_of_row _ _ 1 _ _ _ PV.out.2.1; have a2 := cell_of_row _ _ 2 _ _ _ PV.out.2.1; have a3 := cell_of_row _ _ 3 _ _ _ PV.out.2.1; have a4 := cell_of_row _ _ 4 _ _ _ PV.out.2.1; have r0 := cell_of_row _ _ 0 _ _ _ PV.out.2.2.2.1; have r1 := cell_of_row _ _ 1 _ _ _ PV.out.2.2.2.1; have r2 := cell_of_row _ _ 2 _ _ _ PV.out.2.2.2.1; have h0 := frozen_of_row _ _ 0 _ _ PV.out.2.2.2.1; have h1 := frozen_of_row _ _ 1 _ _ PV.out.2.2.2.1; have h2 := frozen_of_row _ _ 2 _ _ PV.out.2.2.2.1; simp only [List.getElem?_toArray, List.getElem?_cons_zero, List.getElem?_cons_succ] at x0 x1 x2 a0 a1 a2 a3 a4 r0 r1 r2)
          | (at_builtin; refine print_append_cells (w0 := V) (W := V) w.heap.size rfl (.tmp 45) (.tmp 47) 119 123 (.agg #[.int .u32 0, .bool false, .bool false, .int .u32 0, .int .i64 0]) 5 24 rfl Try.underlying119 infoPc rfl (by decide) (by decide) u14 acc.length (pcs5 u wt acc) [.int .u32 va', .bool u, .bool wt, .int .u32 pa, .int .i64 jn] rfl rfl rfl (by simp [Value.oneCell']) PV.out.2.2.2.2 (Below.refl _ _) PV.out.1.chg.size (by have := P.out.n2; have := HN.out; have := HN1.out; omega) ?_; intro v2 w5 ho hb hg hat; obtain ⟨B5, C5, rfl⟩ := own_some ho; have PA := Aside0.mk (papp P.out PV.out.1 PV.out.2.1 PV.out.2.2.2.1 PV.out.2.2.2.2 hg); have O5 := Aside0.mk ho; clear ho hb hg hat a0 a1 a2 a3 a4 x0 x1 x2 r0 r1 r2 h0 h1 h2; have a4 := papp4 PA.out.2.1))
        go_region
        all_goals (
          go_wp2
          rw [hw4]
          go_roundw
          case rel => exact ⟨_, _, acc ++ [(va', pa, jn)], ps2, rfl, rfl, ⟨(PHead.next P.out HN1.out HN.out.1 JN.out.1 JN.out.2.1 JN.out.2.2.1 (FM.out) PA.out.1 PA.out.2.2 O5.out).drew⟩⟩
          case measure => have := JN.out; have := HN1.out; simp [intOf]; omega)
      · have hk' : (fk == 0) = false := beq_eq_false_iff_ne.mpr hk
        have HK := Aside0.mk hk
        clear hk
        go_wp2_with (first
          | (go_at_call 66; (with_reducible refine (FD.out).mono ?_); rintro e w2 ⟨rfl, s⟩; have S2 := Aside0.mk s; have A15 := Aside0.mk (box_ty M1.out BB.out.2.1 (by unfold mTy; decide) s); have A16 := Aside0.mk (box_ty M1.out BB.out.2.2 (by unfold mTy; decide) s); have e3 := cell_of_row _ _ 3 _ _ _ A15.out; have f3 := frozen_of_row _ _ 3 _ _ A15.out; have z0 := cell_of_row _ _ 0 _ _ _ A16.out; have z1 := cell_of_row _ _ 1 _ _ _ A16.out; have z2 := cell_of_row _ _ 2 _ _ _ A16.out; have g0 := frozen_of_row _ _ 0 _ _ A16.out; have g1 := frozen_of_row _ _ 1 _ _ A16.out; have g2 := frozen_of_row _ _ 2 _ _ A16.out; clear s; obtain ⟨V, hV⟩ : ∃ V, ((((w2.setCell ⟨wr.heap.size, 3, none⟩ (.int .u32 pa)).setCell ⟨wr.heap.size + 1, 0, none⟩ (.int .i64 fk)).setCell ⟨wr.heap.size + 1, 1, none⟩ (.int .u32 fv)).setCell ⟨wr.heap.size + 1, 2, none⟩ (.int .u32 fi)) = V := ⟨_, rfl⟩; have PV := Aside0.mk (hV ▸ pvals P.out NX1.out BB.out HSZ.out M1.out S2.out A15.out A16.out (pa := pa) (fk := fk) (fv := fv) (fi := fi)); have x0 := cell_of_row _ _ 0 _ _ _ PV.out.2.2.1; have x1 := cell_of_row _ _ 1 _ _ _ PV.out.2.2.1; have x2 := cell_of_row _ _ 2 _ _ _ PV.out.2.2.1; have a0 := cell_of_row _ _ 0 _ _ _ PV.out.2.1; have a1 := cell_of_row _ _ 1 _ _ _ PV.out.2.1; have a2 := cell_of_row _ _ 2 _ _ _ PV.out.2.1; have a3 := cell_of_row _ _ 3 _ _ _ PV.out.2.1; have a4 := cell_of_row _ _ 4 _ _ _ PV.out.2.1; have r0 := cell_of_row _ _ 0 _ _ _ PV.out.2.2.2.1; have r1 := cell_of_row _ _ 1 _ _ _ PV.out.2.2.2.1; have r2 := cell_of_row _ _ 2 _ _ _ PV.out.2.2.2.1; have h0 := frozen_of_row _ _ 0 _ _ PV.out.2.2.2.1; have h1 := frozen_of_row _ _ 1 _ _ PV.out.2.2.2.1; have h2 := frozen_of_row _ _ 2 _ _ PV.out.2.2.2.1; simp only [List.getElem?_toArray, List.getElem?_cons_zero, List.getElem?_cons_succ] at x0 x1 x2 a0 a1 a2 a3 a4 r0 r1 r2))
        go_region
        all_goals (
          go_wp2
          have G := Aside0.mk (P.out.go [] (fk, fv, fi) ps2 (FX.out HN1.out HK.out))
          refine bodyPost_ret (results_tc rfl _ _ w.heap.size 47 #[.int .i64 fk, .int .u32 fv, .int .u32 fi] (0, 0) _ rfl (flt3_put PV.out.2.2.2.1 _ _ _) Try.underlying47 rfl infoF) rfl ⟨none, 0, [], (fk, fv, fi), ps2, by have := G.out; rwa [if_neg (show ¬ (fk, fv, fi).1 = 0 from HK.out)] at this, rfl, MStep.put3 PV.out.1 (Nat.le_refl _) PV.out.2.2.2.1 (by unfold mTy; decide) _ _ _, World.ownsRow_nil _ _ _ _⟩)
end Go.Proofs.Ytiogbgjeimdgmaa.MmuWalk
/- The MMU's Probe, walked. -/
namespace Go.Proofs.Ytiogbgjeimdgmaa.MmuWalk
open Go.RowKit Go.Proofs.Ytiogbgjeimdgmaa.Aid Go.Proofs.YtiogbgjeimdgmaaW.PrintWords Go.Proofs.YtiogbgjeimdgmaaW.PrintLast Go.Proofs.YtiogbgjeimdgmaaW.PrintMore
open Go.Proofs.Ytiogbgjeimdgmaa.RamWalk (RamAt Bytes leN)
open Go.Proofs.Ytiogbgjeimdgmaa.TlbWalk (TlbAt Kept2 putP dropP posP entP nil2 own_some own_val own_then)
attribute [local go_sem] max2_int min2_int max_two min_two max_three min_three max_four min_four   -- for this text's walks alone
set_option linter.unusedVariables false
set_option linter.unusedSimpArgs false
/-- The pieces lie within the memory; there are at most as many as bytes. -/
theorem Pcs.fit {T : Tabs} {l : List Int} {u wr keep : Bool} {ps : List (Int × Int)} {va n : Int} {xs : List Pc} {f : Flt} {ps' : List (Int × Int)} (h : Pcs T l u wr keep ps va n xs f ps') : ∀ p ∈ xs, p.2.1 + p.2.2 ≤ l.length := by
  induction h with
  | done h => intro p hp; cases hp
  | stop h hf => intro p hp; cases hp
  | @more ps0 va0 n0 xs f ps' h hf k ih =>
    intro p hp
    have h1 := (findF_fit hf).1
    have h2 := (stepN_pos (va := va0) h).1
    split at hp
    · rcases List.mem_cons.1 hp with rfl | hp
      · show (findF T ps0 l va0 (stepN va0 n0) u wr).1 + ((stepN va0 n0).toNat : Int) ≤ l.length
        omega
      · exact ih p hp
    · cases hp
theorem pieces_v (w : World) (base : Nat) (L : Loc) (v : Value) (T : Tabs) (ps : List (Int × Int)) (l : List Int) (va n : Int) (u wt keep : Bool) (hv : R32 va) (hn : n ≤ 65536) (hn0 : -9223372036854775808 ≤ n) (h : MmuAt w base L v T ps l) :
    Calls Try.prog 68 #[.pointer (some ⟨L.m, 0, none⟩), .int .u32 va, .int .i64 n, .bool u, .bool wt, .bool keep] w fun e w' => ∃ A c xs fk fv fi ps', Pcs T l u wt keep ps va n xs (fk, fv, fi) ps' ∧ e = .returned (.tuple #[.slice A xs.length c, .agg #[.int .i64 fk, .int .u32 fv, .int .u32 fi]]) ∧ MStep w w' base L v T ps' l ∧ w'.ownsRow w.heap.size 123 5 (.slice A xs.length c) xs.length (pcs5 u wt xs) :=
  (pieces_call w base L v T ps l va n u wt keep hv hn hn0 h).mono fun e w' ⟨A, c, xs, ⟨fk, fv, fi⟩, ps', h1, h2, h3, h4⟩ => ⟨A, c, xs, fk, fv, fi, ps', h1, h2, h3, h4⟩
set_option maxRecDepth 100000 in
set_option maxHeartbeats 2000000 in
theorem probe_call (w : World) (base : Nat) (L : Loc) (v : Value) (T : Tabs) (ps : List (Int × Int)) (l : List Int) (va n : Int) (u wt : Bool) (hv : R32 va) (hn : n ≤ 65536) (hn0 : -9223372036854775808 ≤ n) (h : MmuAt w base L v T ps l) :
    Calls Try.prog 35 #[.pointer (some ⟨L.m, 0, none⟩), .int .u32 va, .int .i64 n, .bool u, .bool wt] w fun e w' => ∃ xs f ps', Pcs T l u wt true ps va n xs f ps' ∧ e = .returned (fltV f) ∧ MStep w w' base L v T ps' l := by
  have M := Aside0.mk h
  have BX := box1 w (.cells #[.int .i64 0, .int .u32 0, .int .u32 0] 47 (0, 0))
  obtain ⟨W, hW⟩ : ∃ W, w.alloc (.cells #[.int .i64 0, .int .u32 0, .int .u32 0] 47 (0, 0)) = W := ⟨_, rfl⟩
  rw [hW] at BX
  have Z := Aside0.mk BX.2
  have BB := Aside0.mk BX.1
  have PC := Aside0.mk (pieces_v W base L v T ps l va n u wt true hv hn hn0 (M.out.then BX.1))
  clear h BX hv hn hn0
  go_enter Try.func35, Try.ntmps35
  go_wp2_with (first
    | (go_at_call 68; (with_reducible refine (PC.out).mono ?_); rintro e w2 ⟨A, c, xs, fk, fv, fi, ps2, hp, rfl, s, ho⟩; have HP := Aside0.mk hp; have S := Aside0.mk (MStep.after BB.out s); have Z := Aside0.mk (box_keep M.out Z.out (Nat.le_refl _) s); clear hp s ho)
    | (refine wpList_store_row rfl 47 (.tmp 10) (.tmp 26) rfl w.heap.size #[.int .i64 fk, .int .u32 fv, .int .u32 fi] rfl rfl _ _ (row_then Z.out (below_alloc (Below.refl _ _) _)) infoF rfl (by kernel_rfl) ?_))
  refine bodyPost_ret (results_cell_row rfl _ _ (w.heap.size) 47 #[.int .i64 fk, .int .u32 fv, .int .u32 fi] (0, 0) _ rfl (setRow_heap _ _ _ _ 47 _ (row_then Z.out (below_alloc (Below.refl _ _) _))) Try.underlying47 rfl infoF) rfl ⟨xs, (fk, fv, fi), ps2, HP.out, rfl, MStep.setRow (S.out.then (below_alloc (Below.refl _ _) _)) (by omega) (row_then Z.out (below_alloc (Below.refl _ _) _)) (by unfold mTy; decide) _⟩
end Go.Proofs.Ytiogbgjeimdgmaa.MmuWalk
/- The MMU's Load, walked. -/
namespace Go.Proofs.Ytiogbgjeimdgmaa.MmuWalk
open Go.RowKit Go.Proofs.Ytiogbgjeimdgmaa.Aid Go.Proofs.YtiogbgjeimdgmaaW.PrintWords Go.Proofs.YtiogbgjeimdgmaaW.PrintLast Go.Proofs.YtiogbgjeimdgmaaW.PrintMore
open Go.Proofs.Ytiogbgjeimdgmaa.RamWalk (RamAt Bytes leN info5 bytes_n)
open Go.Proofs.Ytiogbgjeimdgmaa.TlbWalk (TlbAt Kept2 putP dropP posP entP nil2 own_some own_val own_then)
attribute [local go_sem] max2_int min2_int max_two min_two max_three min_three max_four min_four   -- for this text's walks alone
set_option linter.unusedVariables false
set_option linter.unusedSimpArgs false
/-- The bytes of the pieces. -/
def loadL (l : List Int) (xs : List Pc) : List Int := xs.flatMap fun p => (l.drop p.2.1.toNat).take p.2.2
theorem loadL_append (l : List Int) (a b : List Pc) : loadL l (a ++ b) = loadL l a ++ loadL l b := List.flatMap_append
theorem findF_r' {T : Tabs} {ps : List (Int × Int)} {l : List Int} (va n : Int) (hv : R32 va) (u wr : Bool) : R32 (findF T ps l va n u wr).1 := by
  have z : R32 (0 : Int) := ⟨by decide, by decide⟩
  unfold findF
  split
  · split
    · exact hv
    · exact z
  · split
    · exact z
    · split
      · exact placeE_r _ _
      · exact z
theorem Pcs.r {T : Tabs} {l : List Int} {u wr keep : Bool} {ps : List (Int × Int)} {va n : Int} {xs : List Pc} {f : Flt} {ps' : List (Int × Int)} (h : Pcs T l u wr keep ps va n xs f ps') (hv : R32 va) : ∀ p ∈ xs, R32 p.1 ∧ R32 p.2.1 ∧ p.2.2 ≤ 512 := by
  induction h with
  | done h => intro p hp; cases hp
  | stop h hf => intro p hp; cases hp
  | @more ps0 va0 n0 xs f ps' h hf k ih =>
    intro p hp
    have h2 := (stepN_pos (va := va0) h).2.2
    split at hp
    · rcases List.mem_cons.1 hp with rfl | hp
      · exact ⟨hv, findF_r' _ _ hv _ _, by show (stepN va0 n0).toNat ≤ 512; omega⟩
      · exact ih ⟨by omega, by omega⟩ p hp
    · cases hp
theorem Pcs.sum {T : Tabs} {l : List Int} {u wr keep : Bool} {ps : List (Int × Int)} {va n : Int} {xs : List Pc} {f : Flt} {ps' : List (Int × Int)} (h : Pcs T l u wr keep ps va n xs f ps') : (loadL l xs).length ≤ n.toNat := by
  induction h with
  | done h => exact Nat.zero_le _
  | stop h hf => exact Nat.zero_le _
  | @more ps0 va0 n0 xs f ps' h hf k ih =>
    have h2 := stepN_pos (va := va0) h
    split
    · show ((l.drop _).take (stepN va0 n0).toNat ++ loadL l xs).length ≤ _
      rw [List.length_append, List.length_take]
      have : min (stepN va0 n0).toNat (l.drop (findF T ps0 l va0 (stepN va0 n0) u wr).1.toNat).length ≤ (stepN va0 n0).toNat := Nat.min_le_left _ _
      omega
    · exact Nat.zero_le _
theorem pcs5_get (u wt : Bool) (k : Nat) (hk : k < 5) : ∀ (xs : List Pc) (j : Nat), (pcs5 u wt xs)[j * 5 + k]? = if j < xs.length then (pc5 u wt (xs.getD j (0, 0, 0)))[k]? else none
  | [], j => by simp [pcs5]
  | p :: xs, 0 => by
    have : k < (pc5 u wt p).length := hk
    show (pc5 u wt p ++ pcs5 u wt xs)[0 * 5 + k]? = _
    rw [Nat.zero_mul, Nat.zero_add, List.getElem?_append_left this]
    simp
  | p :: xs, j + 1 => by
    have : (pc5 u wt p).length = 5 := rfl
    show (pc5 u wt p ++ pcs5 u wt xs)[(j + 1) * 5 + k]? = _
    rw [List.getElem?_append_right (by omega), show (j + 1) * 5 + k - (pc5 u wt p).length = j * 5 + k by omega, pcs5_get u wt k hk xs j]
    simp
theorem pcs_at {W : World} {base : Nat} {u wt : Bool} {xs : List Pc} {A : Option Addr} {c : Nat} (h : W.ownsRow base 123 5 (.slice A xs.length c) xs.length (pcs5 u wt xs)) (hx : 0 < xs.length) : ∃ b, A = some ⟨b, 0, none⟩ ∧ b < W.heap.size ∧ ∀ j, j < xs.length → ∀ k, k < 5 → W.cell? ⟨b, j * 5 + k, none⟩ = (pc5 u wt (xs.getD j (0, 0, 0)))[k]? := by
  rcases h.2 with ⟨_, h0⟩ | ⟨b, c', cur, hv, _, hh, _⟩
  · omega
  · simp only [Value.slice.injEq] at hv
    obtain ⟨rfl, -, rfl⟩ := hv
    refine ⟨b, rfl, (Array.getElem?_eq_some_iff.1 hh).1, fun j hj k hk => ?_⟩
    have := h.cellAt (j * 5 + k) (by omega)
    rw [this, pcs5_get u wt k hk xs j, if_pos hj]
/-- At the head of Load's loop. -/
structure LHead (V wr : World) (l : List Int) (xs : List Pc) (j : Nat) (vo : Value) : Prop where
  below : Below V.heap.size V wr
  out : wr.ownsRow V.heap.size 5 1 vo (loadL l (xs.take j)).length (nums .u8 (loadL l (xs.take j)))
theorem loadL_next (l : List Int) (xs : List Pc) (j : Nat) (hj : j < xs.length) : loadL l (xs.take (j + 1)) = loadL l (xs.take j) ++ (l.drop (xs.getD j (0, 0, 0)).2.1.toNat).take (xs.getD j (0, 0, 0)).2.2 := by
  rw [List.take_add_one, List.getElem?_eq_getElem hj, List.getD_eq_getElem?_getD, List.getElem?_eq_getElem hj, loadL_append]
  congr 1
  simp [loadL]
theorem loadL_le (l : List Int) (xs : List Pc) (j : Nat) : (loadL l (xs.take j)).length ≤ (loadL l xs).length := by
  have : loadL l xs = loadL l (xs.take j) ++ loadL l (xs.drop j) := by rw [← loadL_append, List.take_append_drop]
  rw [this, List.length_append]; omega
theorem own_put3 {W : World} {base n s g : Nat} {v : Value} {xs : List Value} {cs : Array Value} {ty t2 : TypeId} (h : W.ownsRow base ty s v n xs) (hg : W.heap[g]? = some (.cells cs t2 (0, 0))) (ht : ty ≠ t2) (x y z : Value) : (((W.setCell ⟨g, 0, none⟩ x).setCell ⟨g, 1, none⟩ y).setCell ⟨g, 2, none⟩ z).drew.ownsRow base ty s v n xs :=
  own_keep h fun i hi => by
    obtain ⟨cur, hc⟩ := row_ty h i hi
    have hne : i ≠ g := fun e => by rw [e, hg] at hc; simp only [Option.some.injEq, Obj.cells.injEq] at hc; exact ht hc.2.1.symm
    exact (Below.heap_setCell _ ⟨g, 2, none⟩ z i hne).trans ((Below.heap_setCell _ ⟨g, 1, none⟩ y i hne).trans (Below.heap_setCell W ⟨g, 0, none⟩ x i hne))
end Go.Proofs.Ytiogbgjeimdgmaa.MmuWalk
/- The MMU's Load, walked. -/
namespace Go.Proofs.Ytiogbgjeimdgmaa.MmuWalk
open Go.RowKit Go.Proofs.Ytiogbgjeimdgmaa.Aid Go.Proofs.YtiogbgjeimdgmaaW.PrintWords Go.Proofs.YtiogbgjeimdgmaaW.PrintLast Go.Proofs.YtiogbgjeimdgmaaW.PrintMore
open Go.Proofs.Ytiogbgjeimdgmaa.RamWalk (RamAt Bytes leN info5 bytes_n)
open Go.Proofs.Ytiogbgjeimdgmaa.TlbWalk (TlbAt Kept2 putP dropP posP entP nil2 own_some own_val own_then)
attribute [local go_sem] max2_int min2_int max_two min_two max_three min_three max_four min_four   -- for this text's walks alone
set_option linter.unusedVariables false
set_option linter.unusedSimpArgs false
theorem Pcs.len {T : Tabs} {l : List Int} {u wr keep : Bool} {ps : List (Int × Int)} {va n : Int} {xs : List Pc} {f : Flt} {ps' : List (Int × Int)} (h : Pcs T l u wr keep ps va n xs f ps') : xs.length ≤ n.toNat := by
  induction h with
  | done h => exact Nat.zero_le _
  | stop h hf => exact Nat.zero_le _
  | @more ps0 va0 n0 xs f ps' h hf k ih =>
    have h2 := stepN_pos (va := va0) h
    split
    · rw [List.length_cons]; omega
    · exact Nat.zero_le _
set_option maxRecDepth 100000 in
set_option maxHeartbeats 4000000 in
theorem load_call (w : World) (base : Nat) (L : Loc) (v : Value) (T : Tabs) (ps : List (Int × Int)) (l : List Int) (va n : Int) (u : Bool) (hv : R32 va) (hn : n ≤ 65536) (hn0 : -9223372036854775808 ≤ n) (h : MmuAt w base L v T ps l) :
    Calls Try.prog 34 #[.pointer (some ⟨L.m, 0, none⟩), .int .u32 va, .int .i64 n, .bool u] w fun e w' => ∃ A c xs fk fv fi ps', Pcs T l u false true ps va n xs (fk, fv, fi) ps' ∧ e = .returned (.tuple #[.slice A (loadL l xs).length c, .agg #[.int .i64 fk, .int .u32 fv, .int .u32 fi]]) ∧ MStep w w' base L v T ps' l ∧ w'.ownsRow w.heap.size 5 1 (.slice A (loadL l xs).length c) (loadL l xs).length (nums .u8 (loadL l xs)) := by
  have M := Aside0.mk h
  have HV := Aside0.mk hv
  have HN := Aside0.mk (And.intro hn hn0)
  have BX := box1 w (.cells #[.int .i64 0, .int .u32 0, .int .u32 0] 47 (0, 0))
  obtain ⟨W, hW⟩ : ∃ W, w.alloc (.cells #[.int .i64 0, .int .u32 0, .int .u32 0] 47 (0, 0)) = W := ⟨_, rfl⟩
  rw [hW] at BX
  have Z := Aside0.mk BX.2
  have BB := Aside0.mk BX.1
  have PC := Aside0.mk (pieces_v W base L v T ps l va n u false true hv hn hn0 (M.out.then BX.1))
  clear h BX hv hn hn0
  go_enter Try.func34, Try.ntmps34
  go_wp2_with (first
    | (go_at_call 68; (with_reducible refine (PC.out).mono ?_); rintro e w2 ⟨A, c, xs, fk, fv, fi, ps2, hp, rfl, s, ho⟩; have HP := Aside0.mk hp; have S := Aside0.mk (MStep.after BB.out s); have S0 := Aside0.mk s; have HO := Aside0.mk ho; have Z := Aside0.mk (box_keep M.out Z.out (Nat.le_refl _) s); clear hp s ho))
  obtain ⟨v2, m2, _⟩ := S0.out.at_
  have bl := below_alloc (Below.refl _ w2) (.cells #[.int .i64 fk, .int .u32 fv, .int .u32 fi] 47 (0, 0))
  have Y := Aside0.mk (heap_alloc_new w2 (.cells #[.int .i64 fk, .int .u32 fv, .int .u32 fi] 47 (0, 0)))
  have Zn := Aside0.mk (row_then Z.out bl)
  have Sn := Aside0.mk (S.out.then bl)
  have MV := Aside0.mk (m2.then bl)
  have OV := Aside0.mk (own_then HO.out bl)
  have hsz := bl.size
  have hsw := S.out.chg.size
  have hzl := (Array.getElem?_eq_some_iff.1 Z.out).1
  have SZ := Aside0.mk (And.intro hsz (And.intro hsw hzl))
  have hne : ¬ w2.heap.size = w.heap.size := by omega
  have HWV := Aside0.mk (show w.heap.size ≤ (w2.alloc (.cells #[.int .i64 fk, .int .u32 fv, .int .u32 fi] 47 (0, 0))).heap.size by omega)
  clear m2 bl hsz hsw hzl
  generalize w2.alloc (.cells #[.int .i64 fk, .int .u32 fv, .int .u32 fi] 47 (0, 0)) = V at *
  go_loopw [12, 31] (fun o i wr => ∃ j : Nat, j ≤ xs.length ∧ i = .int .i64 j ∧ Aside0 (LHead V wr l xs j o)) (fun _ i _ => xs.length - (intOf i).toNat)
  case atStart => exact ⟨0, Nat.zero_le _, rfl, ⟨⟨Below.refl _ _, World.ownsRow_nil _ _ _ _⟩⟩⟩
  case round =>
    obtain ⟨j, hj, rfl, LH⟩ := hrel
    by_cases hjn : j = xs.length
    · subst hjn
      obtain ⟨A1, c1, rfl⟩ := own_val LH.out.out
      have Y1 := Aside0.mk (row_then Y.out LH.out.below)
      have Z1 := Aside0.mk (row_then Zn.out LH.out.below)
      have y0 := cell_of_row _ _ 0 _ _ _ Y1.out
      have y1 := cell_of_row _ _ 1 _ _ _ Y1.out
      have y2 := cell_of_row _ _ 2 _ _ _ Y1.out
      have z0 := cell_of_row _ _ 0 _ _ _ Z1.out
      have z1 := cell_of_row _ _ 1 _ _ _ Z1.out
      have z2 := cell_of_row _ _ 2 _ _ _ Z1.out
      have g0 := frozen_of_row _ _ 0 _ _ Z1.out
      have g1 := frozen_of_row _ _ 1 _ _ Z1.out
      have g2 := frozen_of_row _ _ 2 _ _ Z1.out
      simp only [List.getElem?_toArray, List.getElem?_cons_zero, List.getElem?_cons_succ] at y0 y1 y2 z0 z1 z2
      go_wp2
      go_region
      go_wp2
      have O := LH.out.out
      rw [List.take_length] at O
      refine bodyPost_ret (results_tc rfl _ _ (w.heap.size) 47 #[.int .i64 fk, .int .u32 fv, .int .u32 fi] (0, 0) _ rfl (flt3_put Z1.out _ _ _) Try.underlying47 rfl infoF) rfl ⟨A1, c1, xs, fk, fv, fi, ps2, HP.out, by rw [List.take_length]; rfl, MStep.put3 (Sn.out.then LH.out.below) (Nat.le_refl _) Z1.out (by unfold mTy; decide) _ _ _, own_less (own_put3 O Z1.out (by decide) _ _ _) HWV.out⟩
    · have hj' : j < xs.length := by omega
      have hjb : j < 65537 := by have := HP.out.len; have := HN.out; omega
      obtain ⟨b, rfl, hbl, hc⟩ := pcs_at OV.out (by omega)
      have q0 := (LH.out.below.cell (p := ⟨b, j * 5, none⟩) hbl).trans (hc j hj' 0 (by omega))
      have q1 := (LH.out.below.cell (p := ⟨b, j * 5 + 1, none⟩) hbl).trans (hc j hj' 1 (by omega))
      have q2 := (LH.out.below.cell (p := ⟨b, j * 5 + 2, none⟩) hbl).trans (hc j hj' 2 (by omega))
      have q3 := (LH.out.below.cell (p := ⟨b, j * 5 + 3, none⟩) hbl).trans (hc j hj' 3 (by omega))
      have q4 := (LH.out.below.cell (p := ⟨b, j * 5 + 4, none⟩) hbl).trans (hc j hj' 4 (by omega))
      have hmem : xs.getD j (0, 0, 0) ∈ xs := by rw [List.getD_eq_getElem?_getD, List.getElem?_eq_getElem hj']; exact List.getElem_mem hj'
      have hr := HP.out.r HV.out _ hmem
      have hf := HP.out.fit _ hmem
      have hnx := loadL_next l xs j hj'
      have hle := loadL_le l xs (j + 1)
      have hsum := HP.out.sum
      simp only [pc5, List.getElem?_cons_zero, List.getElem?_cons_succ] at q0 q1 q2 q3 q4
      generalize xs.getD j (0, 0, 0) = p at *
      obtain ⟨pv, pp, pn⟩ := p
      obtain ⟨hr0, hr1, hr2⟩ := hr
      obtain ⟨pk, hpk⟩ : ∃ pk : Nat, (pk : Int) = pp := ⟨pp.toNat, by have := hr1.1; show ((Int.toNat pp : Nat) : Int) = pp; exact Int.toNat_of_nonneg this⟩
      subst hpk
      have hr1' : pk < 4294967296 := by have := hr1.2; simp only at this; omega
      have hf' : pk + pn ≤ l.length := by simp only at hf; omega
      simp only [Int.toNat_natCast] at hnx q0 q1 q2 q3 q4
      have BX3 := box1 wr (.cells #[.int .u32 pv, .bool u, .bool false, .int .u32 pk, .int .i64 pn] 123 (0, 0))
      obtain ⟨W3, hW3⟩ : ∃ W3, wr.alloc (.cells #[.int .u32 pv, .bool u, .bool false, .int .u32 pk, .int .i64 pn] 123 (0, 0)) = W3 := ⟨_, rfl⟩
      rw [hW3] at BX3
      have B3 := Aside0.mk (below_step LH.out.below BX3.1)
      have M3 := Aside0.mk (MV.out.then B3.out)
      have hS : Aside0 (∀ W', Below W3.heap.size W3 W' → W'.cell? ⟨L.m, 0, none⟩ = some (.pointer (some ⟨L.r, 0, none⟩)) ∧ W'.cell? ⟨wr.heap.size, 3, none⟩ = some (.int .u32 pk) ∧ W'.cell? ⟨wr.heap.size, 4, none⟩ = some (.int .i64 pn)) := ⟨fun W' hW' => ⟨(M3.out.then hW').cell 0, cell_of_row _ _ 3 _ _ _ (row_then BX3.2 hW'), cell_of_row _ _ 4 _ _ _ (row_then BX3.2 hW')⟩⟩
      have RB := Aside0.mk (fun W' (hW' : Below W3.heap.size W3 W') => bytes_n W' base L.r L.b l.length L.c l _ pk pn hr1' (M3.out.then hW').ram hf' rfl)
      have O3 := Aside0.mk (own_then LH.out.out BX3.1)
      have NX := Aside0.mk (And.intro hnx (And.intro hle hsum))
      have HJ := Aside0.mk hj'
      have hS0 := hS.out W3 (Below.refl _ _)
      clear hc hmem hf hr0 hr1 hr2 hnx hle hsum hj'
      clear BX3
      go_wp2
      go_region_held3 (fun W' => W'.cell? ⟨L.m, 0, none⟩ = some (.pointer (some ⟨L.r, 0, none⟩)) ∧ W'.cell? ⟨wr.heap.size, 3, none⟩ = some (.int .u32 pk) ∧ W'.cell? ⟨wr.heap.size, 4, none⟩ = some (.int .i64 pn))
        (first | exact hS.out _ (by assumption) | exact hS.out _ ((Below.refl _ _).drew))
        (first
        | (go_at_call 37; (with_reducible refine (RB.out _ ((Below.refl _ _).drew)).mono ?_); rintro e w1 ⟨b', c', rfl, ho, hb⟩; have hb1 : Below W3.heap.size W3 w1 := below_step ((Below.refl _ _).drew) hb; have RD := Aside0.mk (own_reads' ho); clear hb ho))
      have O5 := Aside0.mk (own_then O3.out hb1)
      have B5 := Aside0.mk (below_step B3.out hb1)
      have LN := Aside0.mk (show ((loadL l (xs.take j)).length + pn) * 1 ≤ 140737488355328 by have h1 := NX.out.2; have h2 := HN.out; have e : ((l.drop pk).take pn).length = pn := RD.out.1; rw [NX.out.1, List.length_append, e] at h1; omega)
      clear hb1
      go_wp2_with (first
        | (at_builtin; refine print_append_row (w0 := V) V.heap.size rfl (.tmp 47) (.tmp 48) 22 5 .u8 1 rfl Try.underlying22 info5 (by decide) u12 (loadL l (xs.take j)) ((l.drop pk).take pn) (some ⟨b', 0, none⟩) pn c' rfl rfl O5.out RD.out B5.out B5.out.size LN.out ?_; intro v1 w4 ho hb hg hat; have O6 := Aside0.mk ho; have B6 := Aside0.mk hb; clear ho hb hg hat))
      go_roundw
      case rel => exact ⟨j + 1, HJ.out, by go_num, ⟨⟨B6.out, by rw [NX.out.1]; exact O6.out⟩⟩⟩
      case measure => have := HJ.out; simp [intOf]; omega
end Go.Proofs.Ytiogbgjeimdgmaa.MmuWalk
/- The MMU's Get: bytes put together. -/
namespace Go.Proofs.Ytiogbgjeimdgmaa.MmuWalk
open Go.RowKit Go.Proofs.Ytiogbgjeimdgmaa.Aid Go.Proofs.YtiogbgjeimdgmaaW.PrintWords Go.Proofs.YtiogbgjeimdgmaaW.PrintLast Go.Proofs.YtiogbgjeimdgmaaW.PrintMore
open Go.Proofs.Ytiogbgjeimdgmaa.RamWalk (RamAt Bytes leN info5 bytes_n leN_bounds)
set_option linter.unusedVariables false
set_option linter.unusedSimpArgs false
theorem leN_snoc : ∀ (a : List Int) (b : Int), leN (a ++ [b]) = leN a + 256 ^ a.length * b
  | [], b => by show b + 256 * 0 = 0 + 256 ^ 0 * b; omega
  | x :: a, b => by
    show x + 256 * leN (a ++ [b]) = x + 256 * leN a + 256 ^ (a.length + 1) * b
    rw [leN_snoc a b, Int.pow_succ, Int.mul_add]
    generalize (256 : Int) ^ a.length = q
    rw [Int.mul_comm q 256, Int.mul_assoc]; omega
theorem shl_at (m k : Nat) (hk : k ≤ 3) (hm : m < 256) : shl .u32 (m : Int) (8 * (k : Int)) = ((m * 2 ^ (8 * k) : Nat) : Int) := by
  have h0 : (8 * (k : Int)) = ((8 * k : Nat) : Int) := by omega
  have e1 : shl .u32 (m : Int) ((8 * k : Nat) : Int) = ((m * 2 ^ (8 * k) % 4294967296 : Nat) : Int) := by
    unfold shl
    rw [Int.toNat_natCast, show min (8 * k) (IntKind.bits .u32) = 8 * k from Nat.min_eq_left (by show 8 * k ≤ 32; omega), IntKind.wrap_u32, Int.natCast_emod, Int.natCast_mul, Int.natCast_pow]
    rfl
  rw [h0, e1]
  have : k = 0 ∨ k = 1 ∨ k = 2 ∨ k = 3 := by omega
  rcases this with rfl | rfl | rfl | rfl <;> congr 1 <;> omega
theorem or_at (x m k : Nat) (hk : k ≤ 3) (hx : x < 256 ^ k) (hm : m < 256) : Go.bits .or .u32 (x : Int) ((m * 2 ^ (8 * k) : Nat) : Int) = ((x + 256 ^ k * m : Nat) : Int) := by
  have hp : 256 ^ k = 2 ^ (8 * k) := by rw [Nat.pow_mul]
  have hb : m * 2 ^ (8 * k) < 4294967296 ∧ x < 4294967296 := by
    have : k = 0 ∨ k = 1 ∨ k = 2 ∨ k = 3 := by omega
    rcases this with rfl | rfl | rfl | rfl <;> omega
  rw [u32_or_nat _ _ hb.2 hb.1, hp]
  rw [hp] at hx
  have := Nat.shiftLeft_add_eq_or_of_lt hx m
  rw [Nat.shiftLeft_eq] at this
  rw [Nat.or_comm, ← this, Nat.mul_comm (2 ^ (8 * k)) m, Nat.add_comm]
/-- One byte more. -/
theorem get_step (bs : List Int) (hb : Bytes bs) (j : Nat) (hj : j < bs.length) (h4 : bs.length ≤ 4) : Go.bits .or .u32 (leN (bs.take j)) (shl .u32 (bs.getD j 0) (8 * (j : Int))) = leN (bs.take (j + 1)) := by
  have e : bs.take (j + 1) = bs.take j ++ [bs.getD j 0] := by
    rw [List.take_add_one, List.getElem?_eq_getElem hj, List.getD_eq_getElem?_getD, List.getElem?_eq_getElem hj]; rfl
  have hg := hb.get j
  have hl := leN_bounds (bs.take j) (hb.take j)
  have hlen : (bs.take j).length = j := by rw [List.length_take]; omega
  rw [e, leN_snoc, hlen]
  rw [hlen] at hl
  generalize bs.getD j 0 = y at *
  obtain ⟨m, rfl⟩ : ∃ m : Nat, y = m := ⟨y.toNat, by omega⟩
  generalize leN (bs.take j) = x at *
  obtain ⟨x, rfl⟩ : ∃ n : Nat, x = n := ⟨x.toNat, by omega⟩
  have hx : x < 256 ^ j := Int.ofNat_lt.1 (by rw [Int.natCast_pow]; exact hl.2)
  rw [shl_at m j (by omega) (by omega), or_at x m j (by omega) hx (by omega), Int.natCast_add, Int.natCast_mul, Int.natCast_pow]
  rfl
theorem loadL_bytes {l : List Int} (h : Bytes l) (xs : List Pc) : Bytes (loadL l xs) := by
  intro x hx
  unfold loadL at hx
  obtain ⟨p, _, hp⟩ := List.mem_flatMap.1 hx
  exact (h.drop _).take _ x hp
/-- How many bytes are meant. -/
def szI (n : Int) : Int := if 4 < (if n < 0 then 0 else n) then 4 else if n < 0 then 0 else n
theorem szI_le (n : Int) : 0 ≤ szI n ∧ szI n ≤ 4 := by unfold szI; split <;> split <;> omega
end Go.Proofs.Ytiogbgjeimdgmaa.MmuWalk
/- The MMU's Get, walked. -/
namespace Go.Proofs.Ytiogbgjeimdgmaa.MmuWalk
open Go.RowKit Go.Proofs.Ytiogbgjeimdgmaa.Aid Go.Proofs.YtiogbgjeimdgmaaW.PrintWords Go.Proofs.YtiogbgjeimdgmaaW.PrintLast Go.Proofs.YtiogbgjeimdgmaaW.PrintMore
open Go.Proofs.Ytiogbgjeimdgmaa.RamWalk (RamAt Bytes leN info5 bytes_n leN_bounds own_cell)
open Go.Proofs.Ytiogbgjeimdgmaa.TlbWalk (TlbAt Kept2 putP dropP posP entP nil2 own_some own_val own_then)
attribute [local go_sem] max2_int min2_int max_two min_two max_three min_three max_four min_four   -- for this text's walks alone
set_option linter.unusedVariables false
set_option linter.unusedSimpArgs false
theorem shl_int (y : Int) (j : Nat) (hj : j < 4) (h0 : 0 ≤ y) (h1 : y < 256) : y * 2 ^ (8 * j) % 4294967296 = shl .u32 y (8 * (j : Int)) := by
  obtain ⟨m, rfl⟩ : ∃ m : Nat, y = m := ⟨y.toNat, by omega⟩
  rw [shl_at m j (by omega) (by omega)]
  have : j = 0 ∨ j = 1 ∨ j = 2 ∨ j = 3 := by omega
  rcases this with rfl | rfl | rfl | rfl <;> omega
set_option maxRecDepth 100000 in
set_option maxHeartbeats 4000000 in
theorem mget_call (w : World) (base : Nat) (L : Loc) (v : Value) (T : Tabs) (ps : List (Int × Int)) (l : List Int) (va n : Int) (u : Bool) (hv : R32 va) (h : MmuAt w base L v T ps l) :
    Calls Try.prog 29 #[.pointer (some ⟨L.m, 0, none⟩), .int .u32 va, .int .i64 n, .bool u] w fun e w' => ∃ xs fk fv fi ps', Pcs T l u false true ps va (szI n) xs (fk, fv, fi) ps' ∧ e = .returned (.tuple #[.int .u32 (leN (loadL l xs)), .agg #[.int .i64 fk, .int .u32 fv, .int .u32 fi]]) ∧ MStep w w' base L v T ps' l := by
  have M := Aside0.mk h
  have HB := Aside0.mk h.by_
  have BX := box1 w (.cells #[.int .i64 0, .int .u32 0, .int .u32 0] 47 (0, 0))
  obtain ⟨W, hW⟩ : ∃ W, w.alloc (.cells #[.int .i64 0, .int .u32 0, .int .u32 0] 47 (0, 0)) = W := ⟨_, rfl⟩
  rw [hW] at BX
  have Z := Aside0.mk BX.2
  have BB := Aside0.mk BX.1
  have hsz := szI_le n
  have LC := Aside0.mk (load_call W base L v T ps l va (szI n) u hv (by omega) (by omega) (M.out.then BX.1))
  obtain ⟨n1, hn1⟩ : ∃ n1, (if n < 0 then 0 else n) = n1 := ⟨_, rfl⟩
  obtain ⟨n2, hn2⟩ : ∃ n2, szI n = n2 := ⟨_, rfl⟩
  have hn3 : (if 4 < n1 then 4 else n1) = n2 := by rw [← hn1, ← hn2]; rfl
  rw [hn2] at LC hsz
  have HN := Aside0.mk hn2
  have HZ := Aside0.mk hsz
  clear h BX hv hn2 hsz
  go_enter Try.func29, Try.ntmps29
  go_wp2_with (first
    | (go_at_call 34; (with_reducible refine (LC.out).mono ?_); rintro e w2 ⟨A, c, xs, fk, fv, fi, ps2, hp, rfl, s, ho⟩; have HP := Aside0.mk hp; have S := Aside0.mk (MStep.after BB.out s); have HO := Aside0.mk ho; have Z := Aside0.mk (box_keep M.out Z.out (Nat.le_refl _) s); clear hp s ho))
  have bl := below_alloc (Below.refl _ w2) (.cells #[.int .i64 fk, .int .u32 fv, .int .u32 fi] 47 (0, 0))
  have y := heap_alloc_new w2 (.cells #[.int .i64 fk, .int .u32 fv, .int .u32 fi] 47 (0, 0))
  have Zn := Aside0.mk (row_then Z.out bl)
  have Sn := Aside0.mk (S.out.then bl)
  have OV := Aside0.mk (own_then HO.out bl)
  have hzl := (Array.getElem?_eq_some_iff.1 Z.out).1
  have hne : ¬ w2.heap.size = w.heap.size := by omega
  clear bl hzl
  generalize w2.alloc (.cells #[.int .i64 fk, .int .u32 fv, .int .u32 fi] 47 (0, 0)) = V at *
  have HB2 := Aside0.mk (loadL_bytes HB.out xs)
  have HL := Aside0.mk (show (loadL l xs).length ≤ 4 by have := HP.out.sum; have := HZ.out; omega)
  obtain ⟨bs, hbs⟩ : ∃ bs, loadL l xs = bs := ⟨_, rfl⟩
  have o1 := OV.out
  have o2 := HB2.out
  have o3 := HL.out
  rw [hbs] at o1 o2 o3
  have OV := Aside0.mk o1
  have HB2 := Aside0.mk o2
  have HL := Aside0.mk o3
  clear o1 o2 o3
  rw [hbs]
  have HBS := Aside0.mk hbs
  clear hbs
  have Y := Aside0.mk y
  have y0 := cell_of_row _ _ 0 _ _ _ Y.out
  have y1 := cell_of_row _ _ 1 _ _ _ Y.out
  have y2 := cell_of_row _ _ 2 _ _ _ Y.out
  have z0 := cell_of_row _ _ 0 _ _ _ Zn.out
  have z1 := cell_of_row _ _ 1 _ _ _ Zn.out
  have z2 := cell_of_row _ _ 2 _ _ _ Zn.out
  have g0 := frozen_of_row _ _ 0 _ _ Zn.out
  have g1 := frozen_of_row _ _ 1 _ _ Zn.out
  have g2 := frozen_of_row _ _ 2 _ _ Zn.out
  simp only [List.getElem?_toArray, List.getElem?_cons_zero, List.getElem?_cons_succ] at y0 y1 y2 z0 z1 z2
  clear y
  go_loopw [12, 27] (fun x i wr => ∃ j : Nat, j ≤ bs.length ∧ i = .int .i64 j ∧ x = .int .u32 (leN (bs.take j)) ∧ V = wr) (fun _ i _ => bs.length - (intOf i).toNat)
  case atStart => exact ⟨0, Nat.zero_le _, rfl, rfl, rfl⟩
  case round =>
    obtain ⟨j, hj, rfl, rfl, rfl⟩ := hrel
    by_cases hjn : j = bs.length
    · subst hjn
      go_wp2
      go_region
      go_wp2
      refine bodyPost_ret (results_tc rfl _ _ (w.heap.size) 47 #[.int .i64 fk, .int .u32 fv, .int .u32 fi] (0, 0) _ rfl (flt3_put Zn.out _ _ _) Try.underlying47 rfl infoF) rfl ⟨xs, fk, fv, fi, ps2, by rw [HN.out]; exact HP.out, by rw [HBS.out, List.take_length]; rfl, MStep.put3 Sn.out (Nat.le_refl _) Zn.out (by unfold mTy; decide) _ _ _⟩
    · have hj' : j < bs.length := by omega
      obtain ⟨m0, hm0⟩ : ∃ m0, bs.length = m0 + 1 := ⟨bs.length - 1, by omega⟩
      obtain ⟨b, cb, hb⟩ := own_some (n := m0) (by have := OV.out; rw [hm0] at this; exact this)
      simp only [Value.slice.injEq] at hb
      obtain ⟨rfl, -, -⟩ := hb
      have cj := own_cell OV.out hj'
      have hy := HB2.out.get j
      have gs := get_step bs HB2.out j hj' HL.out
      have hj4 : j < 4 := by have := HL.out; omega
      have hX := leN_bounds (bs.take j) (HB2.out.take j)
      have HJ := Aside0.mk hj'
      obtain ⟨X, hX0⟩ : ∃ X, leN (bs.take j) = X := ⟨_, rfl⟩
      obtain ⟨X', hX1⟩ : ∃ X, leN (bs.take (j + 1)) = X := ⟨_, rfl⟩
      rw [hX0, hX1] at gs
      rw [hX0]
      generalize bs.getD j 0 = yy at *
      rw [← shl_int yy j hj4 hy.1 hy.2] at gs
      have HX1 := Aside0.mk hX1
      clear hX hX0 hX1 hm0 hj'
      go_wp2
      go_roundw
      case rel => exact ⟨j + 1, HJ.out, by go_num, by rw [HX1.out], trivial⟩
      case measure => have := HJ.out; simp [intOf]; omega
end Go.Proofs.Ytiogbgjeimdgmaa.MmuWalk
