/- The MMU's New, Set, Clear, Drop, Buffered, walked. -/
import Derived.Test.YtiogbgjeimdgmaaMmuH
namespace Go.Proofs.Ytiogbgjeimdgmaa.MmuWalk
open Go.RowKit Go.Proofs.Ytiogbgjeimdgmaa.Aid Go.Proofs.YtiogbgjeimdgmaaW.PrintWords Go.Proofs.YtiogbgjeimdgmaaW.PrintLast Go.Proofs.YtiogbgjeimdgmaaW.PrintMore
open Go.Proofs.Ytiogbgjeimdgmaa.RamWalk (RamAt Bytes leN leN_bounds get_i get_bus_i size_n)
open Go.Proofs.Ytiogbgjeimdgmaa.TlbWalk (TlbAt Kept2 putP dropP posP entP nil2 tnew_call clear_call drop_call pages_call)
attribute [local go_sem] max2_int min2_int max_two min_two max_three min_three max_four min_four   -- for this text's walks alone
set_option linter.unusedVariables false
set_option linter.unusedSimpArgs false
def noT : Tabs := ⟨0, 0, 0, 0, 0⟩
theorem noT_ok : noT.ok := by unfold noT Tabs.ok; decide
theorem mnew_call (w : World) (base gr b c : Nat) (l : List Int) (h : RamAt w base gr (.slice (some ⟨b, 0, none⟩) l.length c) l) (hb : Bytes l) :
    Calls Try.prog 18 #[.pointer (some ⟨gr, 0, none⟩)] w fun e w' => ∃ m t, e = .returned (.pointer (some ⟨m, 0, none⟩)) ∧ MmuAt w' base ⟨m, gr, b, c, t⟩ (.slice none 0 0) noT [] l ∧ Below w.heap.size w w' ∧ w.heap.size ≤ m ∧ w.heap.size ≤ t := by
  have H := Aside0.mk h
  have HB := Aside0.mk hb
  clear h hb
  go_enter Try.func18, Try.ntmps18
  go_wp2_with (first
    | (go_at_call 56; (with_reducible refine (tnew_call _).mono ?_); rintro e w1 ⟨t, rfl, ht, hb1⟩; have T1 := Aside0.mk ht; have B1 := Aside0.mk hb1; clear ht hb1))
  go_ret
  have hl := H.out.lt
  have hg := T1.out.2.1
  have bx := below_alloc (Below.refl w1.heap.size w1) (.cells #[.pointer (some ⟨gr, 0, none⟩), .pointer (some ⟨t, 0, none⟩), .int .u32 0, .int .u32 0, .int .u32 0, .int .u32 0, .int .u32 0] 107 (0, 0))
  refine ⟨_, t, rfl, ⟨blk_new _ _, ?_, (H.out.then B1.out).then bx, (T1.out.lower ?_).then bx, HB.out, noT_ok, fun p hp => by cases hp⟩, below_step B1.out bx, B1.out.size, hg⟩
  · have := H.out.2.1; have := B1.out.size; show base ≤ w1.heap.size; omega
  · have := H.out.2.1; omega
theorem m_put1 {W : World} {base : Nat} {L : Loc} {v : Value} {T T' : Tabs} {ps : List (Int × Int)} {l : List Int} (h : MmuAt W base L v T ps l) (hT : T'.ok) (j : Nat) (x : Value)
    (hb : (W.setCell ⟨L.m, j, none⟩ x).heap[L.m]? = some (.cells (mmuCells L.r L.t T') 107 (0, 0))) : MmuAt (W.setCell ⟨L.m, j, none⟩ x) base L v T' ps l ∧ Chg (foot L v) W (W.setCell ⟨L.m, j, none⟩ x) := by
  obtain ⟨b1, b2, b3, b4⟩ := h.m_ne
  have e : ∀ i, i ≠ L.m → (W.setCell ⟨L.m, j, none⟩ x).heap[i]? = W.heap[i]? := fun i hi => Below.heap_setCell W ⟨L.m, j, none⟩ _ i hi
  refine ⟨⟨hb, h.ge, ⟨(e _ (fun c => b1 c.symm)).trans h.ram.1, h.ram.2.1, own_keep h.ram.2.2.1 (fun i hi => e i (fun c => b2 (by simp only [Value.ownBlock, Option.some.injEq] at hi; omega))), h.ram.2.2.2⟩,
    ⟨(e _ (fun c => b3 c.symm)).trans h.tlb.1, h.tlb.2.1, own_keep h.tlb.2.2.1 (fun i hi => e i (fun c => b4 (by rw [← c, hi]))), h.tlb.2.2.2⟩, h.by_, hT, h.ents⟩, ⟨rfl, rfl, rfl, by simp [World.setCell], fun i hi hf => e i (fun c => hf (.inl c))⟩⟩
theorem m_put5 {W : World} {base : Nat} {L : Loc} {v : Value} {T : Tabs} {ps : List (Int × Int)} {l : List Int} (h : MmuAt W base L v T ps l) (T' : Tabs) (hT : T'.ok) :
    MStep W (((((W.setCell ⟨L.m, 2, none⟩ (.int .u32 T'.p0b)).setCell ⟨L.m, 3, none⟩ (.int .u32 T'.p0l)).setCell ⟨L.m, 4, none⟩ (.int .u32 T'.sb)).setCell ⟨L.m, 5, none⟩ (.int .u32 T'.sl)).setCell ⟨L.m, 6, none⟩ (.int .u32 T'.men)) base L v T' ps l ∧
    MmuAt (((((W.setCell ⟨L.m, 2, none⟩ (.int .u32 T'.p0b)).setCell ⟨L.m, 3, none⟩ (.int .u32 T'.p0l)).setCell ⟨L.m, 4, none⟩ (.int .u32 T'.sb)).setCell ⟨L.m, 5, none⟩ (.int .u32 T'.sl)).setCell ⟨L.m, 6, none⟩ (.int .u32 T'.men)) base L v T' ps l := by
  obtain ⟨t1, t2, t3, t4, t5⟩ := h.ok
  obtain ⟨s1, s2, s3, s4, s5⟩ := hT
  obtain ⟨m1, k1⟩ := m_put1 h (T' := ⟨T'.p0b, T.p0l, T.sb, T.sl, T.men⟩) ⟨s1, t2, t3, t4, t5⟩ 2 (.int .u32 T'.p0b) (blk_put h.blk 2 _ rfl)
  generalize W.setCell ⟨L.m, 2, none⟩ (.int .u32 T'.p0b) = W1 at *
  obtain ⟨m2, k2⟩ := m_put1 m1 (T' := ⟨T'.p0b, T'.p0l, T.sb, T.sl, T.men⟩) ⟨s1, s2, t3, t4, t5⟩ 3 (.int .u32 T'.p0l) (blk_put m1.blk 3 _ rfl)
  generalize W1.setCell ⟨L.m, 3, none⟩ (.int .u32 T'.p0l) = W2 at *
  obtain ⟨m3, k3⟩ := m_put1 m2 (T' := ⟨T'.p0b, T'.p0l, T'.sb, T.sl, T.men⟩) ⟨s1, s2, s3, t4, t5⟩ 4 (.int .u32 T'.sb) (blk_put m2.blk 4 _ rfl)
  generalize W2.setCell ⟨L.m, 4, none⟩ (.int .u32 T'.sb) = W3 at *
  obtain ⟨m4, k4⟩ := m_put1 m3 (T' := ⟨T'.p0b, T'.p0l, T'.sb, T'.sl, T.men⟩) ⟨s1, s2, s3, s4, t5⟩ 5 (.int .u32 T'.sl) (blk_put m3.blk 5 _ rfl)
  generalize W3.setCell ⟨L.m, 5, none⟩ (.int .u32 T'.sl) = W4 at *
  obtain ⟨m5, k5⟩ := m_put1 m4 (T' := T') ⟨s1, s2, s3, s4, s5⟩ 6 (.int .u32 T'.men) (blk_put m4.blk 6 _ rfl)
  generalize W4.setCell ⟨L.m, 6, none⟩ (.int .u32 T'.men) = W5 at *
  have f : ∀ {A : World} (i : Nat), i < A.heap.size → foot L v i → foot L v i := fun i _ h => h
  exact ⟨⟨⟨v, m5, NextRow.same _ _⟩, (((k1.trans k2 (f (A := W))).trans k3 (f (A := W))).trans k4 (f (A := W))).trans k5 (f (A := W))⟩, m5⟩
theorem MStep.chain {W W1 W2 : World} {base : Nat} {L : Loc} {v : Value} {T : Tabs} {ps : List (Int × Int)} {l : List Int} (b : Chg (foot L v) W W1) (h : MStep W1 W2 base L v T ps l) : MStep W W2 base L v T ps l := by
  obtain ⟨⟨v1, m1, n1⟩, c1⟩ := h
  exact ⟨⟨v1, m1, n1.up b.size⟩, b.trans c1 (fun i _ f => f)⟩
set_option maxRecDepth 100000 in
theorem mset_call (w : World) (base : Nat) (L : Loc) (v : Value) (T T' : Tabs) (ps : List (Int × Int)) (l : List Int) (h : MmuAt w base L v T ps l) (hT : T'.ok) :
    Calls Try.prog 20 #[.pointer (some ⟨L.m, 0, none⟩), .agg #[.int .u32 T'.p0b, .int .u32 T'.p0l, .int .u32 T'.sb, .int .u32 T'.sl, .int .u32 T'.men]] w fun e w' => e = .returned (.tuple #[]) ∧ MStep w w' base L v T' [] l := by
  have M := Aside0.mk h
  have BX := box1 w (.cells #[.int .u32 T'.p0b, .int .u32 T'.p0l, .int .u32 T'.sb, .int .u32 T'.sl, .int .u32 T'.men] 25 (0, 0))
  obtain ⟨W, hW⟩ : ∃ W, w.alloc (.cells #[.int .u32 T'.p0b, .int .u32 T'.p0l, .int .u32 T'.sb, .int .u32 T'.sl, .int .u32 T'.men] 25 (0, 0)) = W := ⟨_, rfl⟩
  rw [hW] at BX
  have MW := Aside0.mk (M.out.then BX.1)
  have BB := Aside0.mk BX.1
  have P5 := Aside0.mk (m_put5 MW.out T' hT)
  have d0 := cell_of_row _ _ 0 _ _ _ BX.2
  have d1 := cell_of_row _ _ 1 _ _ _ BX.2
  have d2 := cell_of_row _ _ 2 _ _ _ BX.2
  have d3 := cell_of_row _ _ 3 _ _ _ BX.2
  have d4 := cell_of_row _ _ 4 _ _ _ BX.2
  have c2 := MW.out.cell 2
  have c3 := MW.out.cell 3
  have c4 := MW.out.cell 4
  have c5 := MW.out.cell 5
  have c6 := MW.out.cell 6
  have f2 := MW.out.free 2
  have f3 := MW.out.free 3
  have f4 := MW.out.free 4
  have f5 := MW.out.free 5
  have f6 := MW.out.free 6
  simp only [mmuCells, List.getElem?_toArray, List.getElem?_cons_zero, List.getElem?_cons_succ] at d0 d1 d2 d3 d4 c2 c3 c4 c5 c6
  have c1 := P5.out.2.cell 1
  simp only [mmuCells, List.getElem?_toArray, List.getElem?_cons_zero, List.getElem?_cons_succ] at c1
  clear h BX
  go_enter Try.func20, Try.ntmps20
  go_wp2_with (first
    | (go_at_call 57; (with_reducible refine (clear_call _ _ _ _ _ P5.out.2.tlb).mono ?_); rintro e w1 ⟨rfl, ht, hk⟩; have T1 := Aside0.mk ht; have K1 := Aside0.mk hk; clear ht hk))
  first | go_end0 | refine bodyPost_ret (results_none rfl _ _ _) rfl ?_
  exact ⟨rfl, MStep.after BB.out (MStep.chain P5.out.1.chg (P5.out.2.tlb_step T1.out K1.out (NextRow.nil _ _) (fun p hp => by cases hp)))⟩
theorem mclear_call (w : World) (base : Nat) (L : Loc) (v : Value) (T : Tabs) (ps : List (Int × Int)) (l : List Int) (h : MmuAt w base L v T ps l) :
    Calls Try.prog 30 #[.pointer (some ⟨L.m, 0, none⟩)] w fun e w' => e = .returned (.tuple #[]) ∧ MStep w w' base L v T [] l := by
  have M := Aside0.mk h
  have c1 : w.cell? ⟨L.m, 1, none⟩ = some (.pointer (some ⟨L.t, 0, none⟩)) := h.cell 1
  clear h
  go_enter Try.func30, Try.ntmps30
  go_wp2_with (first
    | (go_at_call 57; (with_reducible refine (clear_call _ _ _ _ _ M.out.tlb).mono ?_); rintro e w1 ⟨rfl, ht, hk⟩; have T1 := Aside0.mk ht; have K1 := Aside0.mk hk; clear ht hk))
  first | go_end0 | refine bodyPost_ret (results_none rfl _ _ _) rfl ?_
  exact ⟨rfl, M.out.tlb_step T1.out K1.out (NextRow.nil _ _) (fun p hp => by cases hp)⟩
theorem dropP_mem {pg : Int} {ps : List (Int × Int)} {p : Int × Int} (h : p ∈ dropP pg ps) : p ∈ ps := by
  unfold dropP at h
  split at h
  · rcases List.mem_append.1 h with h | h
    · exact List.mem_of_mem_take h
    · exact List.mem_of_mem_drop h
  · exact h
theorem mdrop_call (w : World) (base : Nat) (L : Loc) (v : Value) (T : Tabs) (ps : List (Int × Int)) (l : List Int) (va : Int) (h : MmuAt w base L v T ps l) :
    Calls Try.prog 31 #[.pointer (some ⟨L.m, 0, none⟩), .int .u32 va] w fun e w' => e = .returned (.tuple #[]) ∧ MStep w w' base L v T (dropP (va / 512) ps) l := by
  have M := Aside0.mk h
  have c1 : w.cell? ⟨L.m, 1, none⟩ = some (.pointer (some ⟨L.t, 0, none⟩)) := h.cell 1
  clear h
  go_enter Try.func31, Try.ntmps31
  go_wp2_with (first
    | (go_at_call 65; (with_reducible refine (drop_call _ _ _ _ _ (va / 512) M.out.tlb).mono ?_); rintro e w1 ⟨rfl, v1, ht, hk, hn⟩; have T1 := Aside0.mk ht; have K1 := Aside0.mk hk; have N1 := Aside0.mk hn; clear ht hk hn))
  first | go_end0 | refine bodyPost_ret (results_none rfl _ _ _) rfl ?_
  exact ⟨rfl, M.out.tlb_step T1.out K1.out (NextRow.of_or N1.out) (fun p hp => M.out.ents p (dropP_mem hp))⟩
theorem mbuf_call (w : World) (base : Nat) (L : Loc) (v : Value) (T : Tabs) (ps : List (Int × Int)) (l : List Int) (h : MmuAt w base L v T ps l) :
    Calls Try.prog 33 #[.pointer (some ⟨L.m, 0, none⟩)] w fun e w' => ∃ A c, e = .returned (.slice A ps.length c) ∧ w'.ownsRow w.heap.size 23 1 (.slice A ps.length c) ps.length (nums .u32 (ps.map Prod.fst)) ∧ Below w.heap.size w w' := by
  have M := Aside0.mk h
  have c1 : w.cell? ⟨L.m, 1, none⟩ = some (.pointer (some ⟨L.t, 0, none⟩)) := h.cell 1
  clear h
  go_enter Try.func33, Try.ntmps33
  go_wp2_with (first
    | (go_at_call 67; (with_reducible refine (pages_call _ _ _ _ _ M.out.tlb).mono ?_); rintro e w1 ⟨A, c, rfl, ho, hb⟩; have O1 := Aside0.mk ho; have B1 := Aside0.mk hb; clear ho hb))
  go_ret
  exact ⟨A, c, rfl, O1.out, B1.out⟩
end Go.Proofs.Ytiogbgjeimdgmaa.MmuWalk
