/- The MMU's find, walked case by case. -/
import Derived.Test.YtiogbgjeimdgmaaMmuE
namespace Go.Proofs.Ytiogbgjeimdgmaa.MmuWalk
open Go.RowKit Go.Proofs.Ytiogbgjeimdgmaa.Aid Go.Proofs.YtiogbgjeimdgmaaW.PrintWords Go.Proofs.YtiogbgjeimdgmaaW.PrintLast Go.Proofs.YtiogbgjeimdgmaaW.PrintMore
open Go.Proofs.Ytiogbgjeimdgmaa.RamWalk (RamAt Bytes leN leN_bounds get_i get_bus_i size_n)
open Go.Proofs.Ytiogbgjeimdgmaa.TlbWalk (TlbAt Kept2 putP dropP posP entP nil2 get_yes get_no put_call mem_getD putP_mem)
attribute [local go_sem] max2_int min2_int max_two min_two max_three min_three max_four min_four   -- for this text's walks alone
set_option linter.unusedVariables false
set_option linter.unusedSimpArgs false
/-- Where so many bytes from an address on lie, or why they may not be used. -/
def findF (T : Tabs) (ps : List (Int × Int)) (l : List Int) (va n : Int) (u wr : Bool) : Int × Flt :=
  if T.men = 0 then (if va + n ≤ l.length then (va, noF) else (0, flt 1 va 0 wr))
  else if (entryF T ps l va u wr).2.1 ≠ 0 then (0, (entryF T ps l va u wr).2)
  else if placeE (entryF T ps l va u wr).1 va + n ≤ l.length then (placeE (entryF T ps l va u wr).1 va, noF) else (0, flt 1 va 0 wr)
def findP (T : Tabs) (ps : List (Int × Int)) (l : List Int) (va : Int) (u wr keep : Bool) : List (Int × Int) := if T.men = 0 then ps else entryP T ps l va u wr keep
theorem entryF_r {W : World} {base : Nat} {L : Loc} {v : Value} {T : Tabs} {ps : List (Int × Int)} {l : List Int} (h : MmuAt W base L v T ps l) (va : Int) (u wr : Bool) : R32 (entryF T ps l va u wr).1 := by
  have z : R32 (0 : Int) := ⟨by decide, by decide⟩
  have hl : R32 (lookF T ps l va wr).1 := by
    unfold lookF
    split
    · exact entP_r h _
    · unfold memF
      split
      · exact z
      · split
        · rename_i hb
          have ha := atE_r T va
          exact lenum_r h.by_ (atE T va).toNat (by have := ha.1; omega)
        · exact z
  unfold entryF
  split
  · exact z
  · split
    · exact z
    · split
      · exact z
      · exact hl
theorem box_keep {w V W : World} {base : Nat} {L : Loc} {v : Value} {T T' : Tabs} {ps ps' : List (Int × Int)} {l l' : List Int} {g : Nat} {o : Obj} (h : MmuAt w base L v T ps l) (hg : V.heap[g]? = some o) (hw : w.heap.size ≤ g) (s : MStep V W base L v T' ps' l') : W.heap[g]? = some o :=
  (s.chg.block g (Array.getElem?_eq_some_iff.1 hg).1 (fun f => by have := foot_lt h g f; omega)).trans hg
theorem MStep.put3 {w W : World} {base : Nat} {L : Loc} {v : Value} {T : Tabs} {ps : List (Int × Int)} {l : List Int} {g : Nat} {cs0 : Array Value} {ty : TypeId} {fr : Nat × Nat} (s : MStep w W base L v T ps l) (hg : w.heap.size ≤ g) (hb : W.heap[g]? = some (.cells cs0 ty fr)) (ht : ¬ mTy ty) (x y z : Value) : MStep w (((W.setCell ⟨g, 0, none⟩ x).setCell ⟨g, 1, none⟩ y).setCell ⟨g, 2, none⟩ z).drew base L v T ps l := by
  obtain ⟨⟨v1, m1, n1⟩, c1⟩ := s
  have e : ∀ i, i ≠ g → (((W.setCell ⟨g, 0, none⟩ x).setCell ⟨g, 1, none⟩ y).setCell ⟨g, 2, none⟩ z).drew.heap[i]? = W.heap[i]? := fun i hi =>
    (Below.heap_setCell _ ⟨g, 2, none⟩ z i hi).trans ((Below.heap_setCell _ ⟨g, 1, none⟩ y i hi).trans (Below.heap_setCell W ⟨g, 0, none⟩ x i hi))
  exact ⟨⟨v1, m1.keep (fun i k => e i (m1.ne_ty hb ht i k)), n1⟩, ⟨c1.os, c1.tape, c1.output, by simpa [World.setCell] using c1.size, fun i hi hf => (e i (by omega)).trans (c1.block i hi hf)⟩⟩
set_option maxRecDepth 100000 in
set_option maxHeartbeats 2000000 in
theorem find_m0_ok (w : World) (base : Nat) (L : Loc) (v : Value) (T : Tabs) (ps : List (Int × Int)) (l : List Int) (va j : Int) (n : Nat) (u wr keep : Bool) (h : MmuAt w base L v T ps l) (hv : R32 va) (hn : n < 4294967296) (m : Nat) (hm : T.men = 0) (hl : va + n ≤ m) (hm2 : m ≤ 16777216) (SZ : Aside0 (∀ W v' ps', MmuAt W base L v' T ps' l → Calls Try.prog 82 #[.pointer (some ⟨L.r, 0, none⟩)] W fun e w' => e = .returned (.int .i64 m) ∧ W = w')) :
    Calls Try.prog 66 #[.pointer (some ⟨L.m, 0, none⟩), .agg #[.int .u32 va, .bool u, .bool wr], .int .i64 n, .bool keep] w fun e w' => e = .returned (.tuple #[.int .u32 va, .agg #[.int .i64 0, .int .u32 0, .int .u32 0]]) ∧ MStep w w' base L v T ps l := by
  have M := Aside0.mk h
  have BX := box2 w (.cells #[.int .u32 va, .bool u, .bool wr] 118 (0, 0)) (.cells #[.int .i64 0, .int .u32 0, .int .u32 0] 47 (0, 0))
  obtain ⟨W, hW⟩ : ∃ W, (w.alloc (.cells #[.int .u32 va, .bool u, .bool wr] 118 (0, 0))).alloc (.cells #[.int .i64 0, .int .u32 0, .int .u32 0] 47 (0, 0)) = W := ⟨_, rfl⟩
  rw [hW] at BX
  have MW := Aside0.mk (M.out.then BX.1)
  have A := Aside0.mk BX.2.1
  have Z := Aside0.mk BX.2.2
  have BB := Aside0.mk BX.1
  have d0 : W.cell? ⟨w.heap.size, 0, none⟩ = some (.int .u32 va) := cell_of_row _ _ 0 _ _ _ A.out
  have d1 : W.cell? ⟨w.heap.size, 1, none⟩ = some (.bool u) := cell_of_row _ _ 1 _ _ _ A.out
  have d2 : W.cell? ⟨w.heap.size, 2, none⟩ = some (.bool wr) := cell_of_row _ _ 2 _ _ _ A.out
  have c0 : W.cell? ⟨L.m, 0, none⟩ = some (.pointer (some ⟨L.r, 0, none⟩)) := MW.out.cell 0
  have c6 : W.cell? ⟨L.m, 6, none⟩ = some (.int .u32 T.men) := MW.out.cell 6
  have hv1 := hv.1
  have hv2 := hv.2
  clear h BX
  go_enter Try.func66, Try.ntmps66
  go_wp2_with (first
    | (go_at_call 82; (with_reducible refine (SZ.out _ _ _ MW.out).mono ?_); rintro e w3 ⟨rfl, rfl⟩)
    | (refine wpList_store_row rfl 47 (.tmp 9) (.tmp 51) rfl (w.heap.size + 1) #[.int .i64 0, .int .u32 0, .int .u32 0] rfl rfl _ _ Z.out infoF rfl (by kernel_rfl) ?_))
  refine bodyPost_ret (results_tc rfl _ _ (w.heap.size + 1) 47 #[.int .i64 0, .int .u32 0, .int .u32 0] (0, 0) _ rfl (setRow_heap _ _ _ _ 47 _ Z.out) Try.underlying47 rfl infoF) rfl ⟨rfl, MStep.setRow (MStep.of_below M.out BB.out) (by omega) Z.out (by unfold mTy; decide) _⟩
set_option maxRecDepth 100000 in
set_option maxHeartbeats 2000000 in
theorem find_m0_bus (w : World) (base : Nat) (L : Loc) (v : Value) (T : Tabs) (ps : List (Int × Int)) (l : List Int) (va j : Int) (n : Nat) (u wr keep : Bool) (h : MmuAt w base L v T ps l) (hv : R32 va) (hn : n < 4294967296) (m : Nat) (hm : T.men = 0) (hl : ¬ va + n ≤ m) (hm2 : m ≤ 16777216) (SZ : Aside0 (∀ W v' ps', MmuAt W base L v' T ps' l → Calls Try.prog 82 #[.pointer (some ⟨L.r, 0, none⟩)] W fun e w' => e = .returned (.int .i64 m) ∧ W = w')) (F : Aside0 (∀ W, Calls Try.prog 83 #[.agg #[.int .u32 va, .bool u, .bool wr], .int .i64 1, .int .u32 0] W fun e w' => e = .returned (.agg #[.int .i64 1, .int .u32 va, .int .u32 j]) ∧ Below W.heap.size W w')) :
    Calls Try.prog 66 #[.pointer (some ⟨L.m, 0, none⟩), .agg #[.int .u32 va, .bool u, .bool wr], .int .i64 n, .bool keep] w fun e w' => e = .returned (.tuple #[.int .u32 0, .agg #[.int .i64 1, .int .u32 va, .int .u32 j]]) ∧ MStep w w' base L v T ps l := by
  have M := Aside0.mk h
  have BX := box2 w (.cells #[.int .u32 va, .bool u, .bool wr] 118 (0, 0)) (.cells #[.int .i64 0, .int .u32 0, .int .u32 0] 47 (0, 0))
  obtain ⟨W, hW⟩ : ∃ W, (w.alloc (.cells #[.int .u32 va, .bool u, .bool wr] 118 (0, 0))).alloc (.cells #[.int .i64 0, .int .u32 0, .int .u32 0] 47 (0, 0)) = W := ⟨_, rfl⟩
  rw [hW] at BX
  have MW := Aside0.mk (M.out.then BX.1)
  have A := Aside0.mk BX.2.1
  have Z := Aside0.mk BX.2.2
  have BB := Aside0.mk BX.1
  have d0 : W.cell? ⟨w.heap.size, 0, none⟩ = some (.int .u32 va) := cell_of_row _ _ 0 _ _ _ A.out
  have d1 : W.cell? ⟨w.heap.size, 1, none⟩ = some (.bool u) := cell_of_row _ _ 1 _ _ _ A.out
  have d2 : W.cell? ⟨w.heap.size, 2, none⟩ = some (.bool wr) := cell_of_row _ _ 2 _ _ _ A.out
  have c0 : W.cell? ⟨L.m, 0, none⟩ = some (.pointer (some ⟨L.r, 0, none⟩)) := MW.out.cell 0
  have c6 : W.cell? ⟨L.m, 6, none⟩ = some (.int .u32 T.men) := MW.out.cell 6
  have hv1 := hv.1
  have hv2 := hv.2
  clear h BX
  go_enter Try.func66, Try.ntmps66
  go_wp2_with (first
    | (go_at_call 82; (with_reducible refine (SZ.out _ _ _ MW.out).mono ?_); rintro e w3 ⟨rfl, rfl⟩)
    | (go_at_call 83; (with_reducible refine (F.out _).mono ?_); rintro e w6 ⟨rfl, hb⟩; have Z6 := Aside0.mk (row_then Z.out hb); have B6 := Aside0.mk (below_step BB.out hb); clear hb)
    | (refine wpList_store_row rfl 47 (.tmp 9) (.tmp 49) rfl (w.heap.size + 1) #[.int .i64 1, .int .u32 va, .int .u32 j] rfl rfl _ _ Z6.out infoF rfl (by kernel_rfl) ?_))
  refine bodyPost_ret (results_tc rfl _ _ (w.heap.size + 1) 47 #[.int .i64 1, .int .u32 va, .int .u32 j] (0, 0) _ rfl (setRow_heap _ _ _ _ 47 _ Z6.out) Try.underlying47 rfl infoF) rfl ⟨rfl, MStep.setRow (MStep.of_below M.out B6.out) (by omega) Z6.out (by unfold mTy; decide) _⟩
set_option maxRecDepth 100000 in
set_option maxHeartbeats 2000000 in
theorem find_m1_ok (w : World) (base : Nat) (L : Loc) (v : Value) (T : Tabs) (ps : List (Int × Int)) (l : List Int) (va j : Int) (n : Nat) (u wr keep : Bool) (h : MmuAt w base L v T ps l) (hv : R32 va) (hn : n < 4294967296) (m : Nat) (x : Int) (ps' : List (Int × Int)) (hm : (T.men == 0) = false) (hm2 : m ≤ 16777216) (pa : Int) (EN : Aside0 (∀ W, Below w.heap.size w W → Calls Try.prog 80 #[.pointer (some ⟨L.m, 0, none⟩), .agg #[.int .u32 va, .bool u, .bool wr], .bool keep] W fun e w' => e = .returned (.tuple #[.int .u32 x, .agg #[.int .i64 0, .int .u32 0, .int .u32 0]]) ∧ MStep W w' base L v T ps' l)) (PP : Aside0 (∀ W, Calls Try.prog 81 #[.int .u32 x, .int .u32 va] W fun e w' => e = .returned (.int .u32 pa) ∧ W = w')) (hp1 : 0 ≤ pa) (hp2 : pa < 4294967296) (hl : pa + n ≤ m) (SZ : Aside0 (∀ W v' ps', MmuAt W base L v' T ps' l → Calls Try.prog 82 #[.pointer (some ⟨L.r, 0, none⟩)] W fun e w' => e = .returned (.int .i64 m) ∧ W = w')) :
    Calls Try.prog 66 #[.pointer (some ⟨L.m, 0, none⟩), .agg #[.int .u32 va, .bool u, .bool wr], .int .i64 n, .bool keep] w fun e w' => e = .returned (.tuple #[.int .u32 pa, .agg #[.int .i64 0, .int .u32 0, .int .u32 0]]) ∧ MStep w w' base L v T ps' l := by
  have M := Aside0.mk h
  have BX := box2 w (.cells #[.int .u32 va, .bool u, .bool wr] 118 (0, 0)) (.cells #[.int .i64 0, .int .u32 0, .int .u32 0] 47 (0, 0))
  obtain ⟨W, hW⟩ : ∃ W, (w.alloc (.cells #[.int .u32 va, .bool u, .bool wr] 118 (0, 0))).alloc (.cells #[.int .i64 0, .int .u32 0, .int .u32 0] 47 (0, 0)) = W := ⟨_, rfl⟩
  rw [hW] at BX
  have MW := Aside0.mk (M.out.then BX.1)
  have A := Aside0.mk BX.2.1
  have Z := Aside0.mk BX.2.2
  have BB := Aside0.mk BX.1
  have d0 : W.cell? ⟨w.heap.size, 0, none⟩ = some (.int .u32 va) := cell_of_row _ _ 0 _ _ _ A.out
  have d1 : W.cell? ⟨w.heap.size, 1, none⟩ = some (.bool u) := cell_of_row _ _ 1 _ _ _ A.out
  have d2 : W.cell? ⟨w.heap.size, 2, none⟩ = some (.bool wr) := cell_of_row _ _ 2 _ _ _ A.out
  have c0 : W.cell? ⟨L.m, 0, none⟩ = some (.pointer (some ⟨L.r, 0, none⟩)) := MW.out.cell 0
  have c6 : W.cell? ⟨L.m, 6, none⟩ = some (.int .u32 T.men) := MW.out.cell 6
  have hv1 := hv.1
  have hv2 := hv.2
  clear h BX
  go_enter Try.func66, Try.ntmps66
  go_wp2_with (first
    | (go_at_call 80; (with_reducible refine (EN.out _ BB.out).mono ?_); rintro e w2 ⟨rfl, s⟩; have S := Aside0.mk (MStep.after BB.out s); have A := Aside0.mk (box_keep M.out A.out (Nat.le_refl _) s); have Z := Aside0.mk (box_keep M.out Z.out (by omega) s); obtain ⟨v2, m2, _⟩ := s.at_; have MW := Aside0.mk m2; have m0 := fun o => (m2.then (below_alloc (Below.refl _ _) o)).cell 0; have r0 := fun o => row_alloc A.out o 0; have r1 := fun o => row_alloc A.out o 1; have r2 := fun o => row_alloc A.out o 2; simp only [mmuCells, List.getElem?_toArray, List.getElem?_cons_zero, List.getElem?_cons_succ] at m0 r0 r1 r2; clear m2 s)
    | (go_at_call 81; (with_reducible refine (PP.out _).mono ?_); rintro e w4 ⟨rfl, rfl⟩)
    | (go_at_call 82; (with_reducible refine (SZ.out _ _ _ (MW.out.then (below_alloc (Below.refl _ _) _))).mono ?_); rintro e w3 ⟨rfl, rfl⟩)
    | (refine wpList_store_row rfl 47 (.tmp 9) (.tmp 51) rfl (w.heap.size + 1) #[.int .i64 0, .int .u32 0, .int .u32 0] rfl rfl _ _ (row_then Z.out (below_alloc (Below.refl _ _) _)) infoF rfl (by kernel_rfl) ?_))
  refine bodyPost_ret (results_tc rfl _ _ (w.heap.size + 1) 47 #[.int .i64 0, .int .u32 0, .int .u32 0] (0, 0) _ rfl (setRow_heap _ _ _ _ 47 _ (row_then Z.out (below_alloc (Below.refl _ _) _))) Try.underlying47 rfl infoF) rfl ⟨rfl, MStep.setRow (S.out.then (below_alloc (Below.refl _ _) _)) (by omega) (row_then Z.out (below_alloc (Below.refl _ _) _)) (by unfold mTy; decide) _⟩
set_option maxRecDepth 100000 in
set_option maxHeartbeats 2000000 in
theorem find_m1_bus (w : World) (base : Nat) (L : Loc) (v : Value) (T : Tabs) (ps : List (Int × Int)) (l : List Int) (va j : Int) (n : Nat) (u wr keep : Bool) (h : MmuAt w base L v T ps l) (hv : R32 va) (hn : n < 4294967296) (m : Nat) (x : Int) (ps' : List (Int × Int)) (hm : (T.men == 0) = false) (hm2 : m ≤ 16777216) (pa : Int) (EN : Aside0 (∀ W, Below w.heap.size w W → Calls Try.prog 80 #[.pointer (some ⟨L.m, 0, none⟩), .agg #[.int .u32 va, .bool u, .bool wr], .bool keep] W fun e w' => e = .returned (.tuple #[.int .u32 x, .agg #[.int .i64 0, .int .u32 0, .int .u32 0]]) ∧ MStep W w' base L v T ps' l)) (PP : Aside0 (∀ W, Calls Try.prog 81 #[.int .u32 x, .int .u32 va] W fun e w' => e = .returned (.int .u32 pa) ∧ W = w')) (hp1 : 0 ≤ pa) (hp2 : pa < 4294967296) (hl : ¬ pa + n ≤ m) (SZ : Aside0 (∀ W v' ps', MmuAt W base L v' T ps' l → Calls Try.prog 82 #[.pointer (some ⟨L.r, 0, none⟩)] W fun e w' => e = .returned (.int .i64 m) ∧ W = w')) (F : Aside0 (∀ W, Calls Try.prog 83 #[.agg #[.int .u32 va, .bool u, .bool wr], .int .i64 1, .int .u32 0] W fun e w' => e = .returned (.agg #[.int .i64 1, .int .u32 va, .int .u32 j]) ∧ Below W.heap.size W w')) :
    Calls Try.prog 66 #[.pointer (some ⟨L.m, 0, none⟩), .agg #[.int .u32 va, .bool u, .bool wr], .int .i64 n, .bool keep] w fun e w' => e = .returned (.tuple #[.int .u32 0, .agg #[.int .i64 1, .int .u32 va, .int .u32 j]]) ∧ MStep w w' base L v T ps' l := by
  have M := Aside0.mk h
  have BX := box2 w (.cells #[.int .u32 va, .bool u, .bool wr] 118 (0, 0)) (.cells #[.int .i64 0, .int .u32 0, .int .u32 0] 47 (0, 0))
  obtain ⟨W, hW⟩ : ∃ W, (w.alloc (.cells #[.int .u32 va, .bool u, .bool wr] 118 (0, 0))).alloc (.cells #[.int .i64 0, .int .u32 0, .int .u32 0] 47 (0, 0)) = W := ⟨_, rfl⟩
  rw [hW] at BX
  have MW := Aside0.mk (M.out.then BX.1)
  have A := Aside0.mk BX.2.1
  have Z := Aside0.mk BX.2.2
  have BB := Aside0.mk BX.1
  have d0 : W.cell? ⟨w.heap.size, 0, none⟩ = some (.int .u32 va) := cell_of_row _ _ 0 _ _ _ A.out
  have d1 : W.cell? ⟨w.heap.size, 1, none⟩ = some (.bool u) := cell_of_row _ _ 1 _ _ _ A.out
  have d2 : W.cell? ⟨w.heap.size, 2, none⟩ = some (.bool wr) := cell_of_row _ _ 2 _ _ _ A.out
  have c0 : W.cell? ⟨L.m, 0, none⟩ = some (.pointer (some ⟨L.r, 0, none⟩)) := MW.out.cell 0
  have c6 : W.cell? ⟨L.m, 6, none⟩ = some (.int .u32 T.men) := MW.out.cell 6
  have hv1 := hv.1
  have hv2 := hv.2
  clear h BX
  go_enter Try.func66, Try.ntmps66
  go_wp2_with (first
    | (go_at_call 80; (with_reducible refine (EN.out _ BB.out).mono ?_); rintro e w2 ⟨rfl, s⟩; have S := Aside0.mk (MStep.after BB.out s); have A := Aside0.mk (box_keep M.out A.out (Nat.le_refl _) s); have Z := Aside0.mk (box_keep M.out Z.out (by omega) s); obtain ⟨v2, m2, _⟩ := s.at_; have MW := Aside0.mk m2; have m0 := fun o => (m2.then (below_alloc (Below.refl _ _) o)).cell 0; have r0 := fun o => row_alloc A.out o 0; have r1 := fun o => row_alloc A.out o 1; have r2 := fun o => row_alloc A.out o 2; simp only [mmuCells, List.getElem?_toArray, List.getElem?_cons_zero, List.getElem?_cons_succ] at m0 r0 r1 r2; clear m2 s)
    | (go_at_call 81; (with_reducible refine (PP.out _).mono ?_); rintro e w4 ⟨rfl, rfl⟩)
    | (go_at_call 82; (with_reducible refine (SZ.out _ _ _ (MW.out.then (below_alloc (Below.refl _ _) _))).mono ?_); rintro e w3 ⟨rfl, rfl⟩)
    | (go_at_call 83; (with_reducible refine (F.out _).mono ?_); rintro e w6 ⟨rfl, hb⟩; have Z6 := Aside0.mk (row_then Z.out (below_step (below_alloc (Below.refl _ _) _) hb)); have S6 := Aside0.mk ((S.out.then (below_alloc (Below.refl _ _) _)).then hb); clear hb)
    | (refine wpList_store_row rfl 47 (.tmp 9) (.tmp 49) rfl (w.heap.size + 1) #[.int .i64 1, .int .u32 va, .int .u32 j] rfl rfl _ _ Z6.out infoF rfl (by kernel_rfl) ?_))
  refine bodyPost_ret (results_tc rfl _ _ (w.heap.size + 1) 47 #[.int .i64 1, .int .u32 va, .int .u32 j] (0, 0) _ rfl (setRow_heap _ _ _ _ 47 _ Z6.out) Try.underlying47 rfl infoF) rfl ⟨rfl, MStep.setRow (S6.out) (by omega) Z6.out (by unfold mTy; decide) _⟩
set_option maxRecDepth 100000 in
set_option maxHeartbeats 2000000 in
theorem find_m1_flt (w : World) (base : Nat) (L : Loc) (v : Value) (T : Tabs) (ps : List (Int × Int)) (l : List Int) (va j : Int) (n : Nat) (u wr keep : Bool) (h : MmuAt w base L v T ps l) (hv : R32 va) (hn : n < 4294967296) (m : Nat) (x : Int) (ps' : List (Int × Int)) (hm : (T.men == 0) = false) (hm2 : m ≤ 16777216) (fk fv fi : Int) (hk : (fk == 0) = false) (EN : Aside0 (∀ W, Below w.heap.size w W → Calls Try.prog 80 #[.pointer (some ⟨L.m, 0, none⟩), .agg #[.int .u32 va, .bool u, .bool wr], .bool keep] W fun e w' => e = .returned (.tuple #[.int .u32 x, .agg #[.int .i64 fk, .int .u32 fv, .int .u32 fi]]) ∧ MStep W w' base L v T ps' l)) :
    Calls Try.prog 66 #[.pointer (some ⟨L.m, 0, none⟩), .agg #[.int .u32 va, .bool u, .bool wr], .int .i64 n, .bool keep] w fun e w' => e = .returned (.tuple #[.int .u32 0, .agg #[.int .i64 fk, .int .u32 fv, .int .u32 fi]]) ∧ MStep w w' base L v T ps' l := by
  have M := Aside0.mk h
  have BX := box2 w (.cells #[.int .u32 va, .bool u, .bool wr] 118 (0, 0)) (.cells #[.int .i64 0, .int .u32 0, .int .u32 0] 47 (0, 0))
  obtain ⟨W, hW⟩ : ∃ W, (w.alloc (.cells #[.int .u32 va, .bool u, .bool wr] 118 (0, 0))).alloc (.cells #[.int .i64 0, .int .u32 0, .int .u32 0] 47 (0, 0)) = W := ⟨_, rfl⟩
  rw [hW] at BX
  have MW := Aside0.mk (M.out.then BX.1)
  have A := Aside0.mk BX.2.1
  have Z := Aside0.mk BX.2.2
  have BB := Aside0.mk BX.1
  have d0 : W.cell? ⟨w.heap.size, 0, none⟩ = some (.int .u32 va) := cell_of_row _ _ 0 _ _ _ A.out
  have d1 : W.cell? ⟨w.heap.size, 1, none⟩ = some (.bool u) := cell_of_row _ _ 1 _ _ _ A.out
  have d2 : W.cell? ⟨w.heap.size, 2, none⟩ = some (.bool wr) := cell_of_row _ _ 2 _ _ _ A.out
  have c0 : W.cell? ⟨L.m, 0, none⟩ = some (.pointer (some ⟨L.r, 0, none⟩)) := MW.out.cell 0
  have c6 : W.cell? ⟨L.m, 6, none⟩ = some (.int .u32 T.men) := MW.out.cell 6
  have hv1 := hv.1
  have hv2 := hv.2
  clear h BX
  go_enter Try.func66, Try.ntmps66
  go_wp2_with (first
    | (go_at_call 80; (with_reducible refine (EN.out _ BB.out).mono ?_); rintro e w2 ⟨rfl, s⟩; have S := Aside0.mk (MStep.after BB.out s); have A := Aside0.mk (box_keep M.out A.out (Nat.le_refl _) s); have Z := Aside0.mk (box_keep M.out Z.out (by omega) s); obtain ⟨v2, m2, _⟩ := s.at_; have MW := Aside0.mk m2; have m0 := fun o => (m2.then (below_alloc (Below.refl _ _) o)).cell 0; have r0 := fun o => row_alloc A.out o 0; have r1 := fun o => row_alloc A.out o 1; have r2 := fun o => row_alloc A.out o 2; simp only [mmuCells, List.getElem?_toArray, List.getElem?_cons_zero, List.getElem?_cons_succ] at m0 r0 r1 r2; clear m2 s))
  have Y := heap_alloc_new w2 (.cells #[.int .i64 fk, .int .u32 fv, .int .u32 fi] 47 (0, 0))
  have Zn := row_then Z.out (below_alloc (Below.refl _ _) (.cells #[.int .i64 fk, .int .u32 fv, .int .u32 fi] 47 (0, 0)))
  have Sn := Aside0.mk (S.out.then (below_alloc (Below.refl _ _) (.cells #[.int .i64 fk, .int .u32 fv, .int .u32 fi] 47 (0, 0))))
  generalize w2.alloc (.cells #[.int .i64 fk, .int .u32 fv, .int .u32 fi] 47 (0, 0)) = V at *
  have y0 := cell_of_row _ _ 0 _ _ _ Y
  have y1 := cell_of_row _ _ 1 _ _ _ Y
  have y2 := cell_of_row _ _ 2 _ _ _ Y
  have z0 := cell_of_row _ _ 0 _ _ _ Zn
  have z1 := cell_of_row _ _ 1 _ _ _ Zn
  have z2 := cell_of_row _ _ 2 _ _ _ Zn
  have g0 := frozen_of_row _ _ 0 _ _ Zn
  have g1 := frozen_of_row _ _ 1 _ _ Zn
  have g2 := frozen_of_row _ _ 2 _ _ Zn
  simp only [List.getElem?_toArray, List.getElem?_cons_zero, List.getElem?_cons_succ] at y0 y1 y2 z0 z1 z2
  have hne : ¬ w2.heap.size = w.heap.size + 1 := by have := (Array.getElem?_eq_some_iff.1 Z.out).1; omega
  have Y := Aside0.mk Y
  have Zn := Aside0.mk Zn
  go_region
  go_wp2
  refine bodyPost_ret (results_tc rfl _ _ (w.heap.size + 1) 47 #[.int .i64 fk, .int .u32 fv, .int .u32 fi] (0, 0) _ rfl (flt3_put Zn.out _ _ _) Try.underlying47 rfl infoF) rfl ⟨rfl, MStep.put3 Sn.out (by omega) Zn.out (by unfold mTy; decide) _ _ _⟩
end Go.Proofs.Ytiogbgjeimdgmaa.MmuWalk
