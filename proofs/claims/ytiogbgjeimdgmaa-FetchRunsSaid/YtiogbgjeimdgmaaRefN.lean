/- The MMU's Tables; the calls on a nil MMU; MmuDoes' same. -/
import Derived.Test.YtiogbgjeimdgmaaRefM
namespace Go.Proofs.Ytiogbgjeimdgmaa.RefWalk
open Go.RowKit Go.Proofs.Ytiogbgjeimdgmaa.Aid Go.Proofs.YtiogbgjeimdgmaaW.PrintWords Go.Proofs.YtiogbgjeimdgmaaW.PrintLast Go.Proofs.YtiogbgjeimdgmaaW.PrintMore
open Go.Proofs.Ytiogbgjeimdgmaa.MmuWalk (Chg R32 Flt fltV noF flt infoF Tabs row_ty own_keep two_ty box1 row_then flt3_put foot mine MmuAt MStep NextRow mTy mbuf_call noT)
open Go.Proofs.Ytiogbgjeimdgmaa.RamWalk (Bytes leN own_cell bytes_n)
open Go.Proofs.Ytiogbgjeimdgmaa.TlbWalk (RefAt own_then own_val own_some same_call)
attribute [local go_sem] max2_int min2_int max_two min_two max_three min_three max_four min_four   -- for this text's walks alone
set_option linter.unusedVariables false
set_option linter.unusedSimpArgs false
theorem infoT : (Try.prog.info? 25).map (·.size) = some 5 := by kernel_rfl
set_option maxRecDepth 100000 in
theorem mtables_call (w : World) (base : Nat) (L : LocR) (v : Value) (T : Tabs) (ps : List (Int × Int)) (l : List Int) (h : MmuAt w base L v T ps l) :
    Calls Try.prog 53 #[.pointer (some ⟨L.m, 0, none⟩)] w fun e w' => e = .returned (.agg #[.int .u32 T.p0b, .int .u32 T.p0l, .int .u32 T.sb, .int .u32 T.sl, .int .u32 T.men]) ∧ Below w.heap.size w w' := by
  have BX := box1 w (.cells #[.int .u32 0, .int .u32 0, .int .u32 0, .int .u32 0, .int .u32 0] 25 (0, 0))
  obtain ⟨W, hW⟩ : ∃ W, w.alloc (.cells #[.int .u32 0, .int .u32 0, .int .u32 0, .int .u32 0, .int .u32 0] 25 (0, 0)) = W := ⟨_, rfl⟩
  rw [hW] at BX
  have MW := h.then BX.1
  have Z := Aside0.mk BX.2
  have BB := Aside0.mk BX.1
  have c2 := MW.cell 2
  have c3 := MW.cell 3
  have c4 := MW.cell 4
  have c5 := MW.cell 5
  have c6 := MW.cell 6
  simp only [Go.Proofs.Ytiogbgjeimdgmaa.MmuWalk.mmuCells, List.getElem?_toArray, List.getElem?_cons_zero, List.getElem?_cons_succ] at c2 c3 c4 c5 c6
  clear h BX MW
  go_enter Try.func53, Try.ntmps53
  go_wp2_with (first
    | (refine wpList_store_row rfl 25 (.tmp 2) (.tmp 9) rfl w.heap.size #[.int .u32 T.p0b, .int .u32 T.p0l, .int .u32 T.sb, .int .u32 T.sl, .int .u32 T.men] rfl rfl _ _ Z.out infoT rfl (by kernel_rfl) ?_))
  refine bodyPost_ret (results_cell_row rfl _ _ (w.heap.size) 25 #[.int .u32 T.p0b, .int .u32 T.p0l, .int .u32 T.sb, .int .u32 T.sl, .int .u32 T.men] (0, 0) _ rfl (setRow_heap _ _ _ _ 25 _ Z.out) Try.underlying25 rfl infoT) rfl ⟨rfl, below_setRow BB.out (Nat.le_refl _) _⟩
/-! A nil MMU. -/
theorem nset (w : World) (t1 t2 t3 t4 t5 : Int) : Calls Try.prog 20 #[.pointer none, .agg #[.int .u32 t1, .int .u32 t2, .int .u32 t3, .int .u32 t4, .int .u32 t5]] w fun e w' => e = .returned (.tuple #[]) ∧ Below w.heap.size w w' := by
  go_enter Try.func20, Try.ntmps20
  go_wp2
  first | go_end0 | refine bodyPost_ret (results_none rfl _ _ _) rfl ?_
  exact ⟨rfl, by first | exact Below.refl _ _ | exact below_alloc (Below.refl _ _) _⟩
theorem nclear (w : World) : Calls Try.prog 30 #[.pointer none] w fun e w' => e = .returned (.tuple #[]) ∧ w = w' := by
  go_enter Try.func30, Try.ntmps30
  go_wp2
  first | go_end0 | refine bodyPost_ret (results_none rfl _ _ _) rfl ?_
  exact ⟨rfl, rfl⟩
theorem ndrop (w : World) (va : Int) : Calls Try.prog 31 #[.pointer none, .int .u32 va] w fun e w' => e = .returned (.tuple #[]) ∧ w = w' := by
  go_enter Try.func31, Try.ntmps31
  go_wp2
  first | go_end0 | refine bodyPost_ret (results_none rfl _ _ _) rfl ?_
  exact ⟨rfl, rfl⟩
theorem nbuf (w : World) : Calls Try.prog 33 #[.pointer none] w fun e w' => e = .returned (.slice none 0 0) ∧ w = w' := by
  go_enter Try.func33, Try.ntmps33
  go_wp2
  go_ret
  exact ⟨rfl, rfl⟩
theorem ntables (w : World) : Calls Try.prog 53 #[.pointer none] w fun e w' => e = .returned (.agg #[.int .u32 0, .int .u32 0, .int .u32 0, .int .u32 0, .int .u32 0]) ∧ Below w.heap.size w w' := by
  have Z := heap_alloc_new w (.cells #[.int .u32 0, .int .u32 0, .int .u32 0, .int .u32 0, .int .u32 0] 25 (0, 0))
  go_enter Try.func53, Try.ntmps53
  go_wp2_with (first
    | (refine wpList_store_row rfl 25 (.tmp 2) (.tmp 5) rfl w.heap.size #[.int .u32 0, .int .u32 0, .int .u32 0, .int .u32 0, .int .u32 0] rfl rfl _ _ Z infoT rfl (by kernel_rfl) ?_))
  refine bodyPost_ret (results_cell_row rfl _ _ (w.heap.size) 25 #[.int .u32 0, .int .u32 0, .int .u32 0, .int .u32 0, .int .u32 0] (0, 0) _ rfl (setRow_heap _ _ _ _ 25 _ Z) Try.underlying25 rfl infoT) rfl ⟨rfl, below_setRow (below_alloc (Below.refl _ _) _) (Nat.le_refl _) _⟩
theorem nload (w : World) (va n : Int) (u : Bool) : Calls Try.prog 34 #[.pointer none, .int .u32 va, .int .i64 n, .bool u] w fun e w' => e = .returned (.tuple #[.slice none 0 0, .agg #[.int .i64 1, .int .u32 va, .int .u32 0]]) ∧ Below w.heap.size w w' := by
  have Z := heap_alloc_new w (.cells #[.int .i64 0, .int .u32 0, .int .u32 0] 47 (0, 0))
  go_enter Try.func34, Try.ntmps34
  go_wp2_with (first
    | (refine wpList_store_row rfl 47 (.tmp 9) (.tmp 20) rfl w.heap.size #[.int .i64 1, .int .u32 va, .int .u32 0] rfl rfl _ _ Z infoF rfl (by kernel_rfl) ?_))
  refine bodyPost_ret (results_tc rfl _ _ (w.heap.size) 47 #[.int .i64 1, .int .u32 va, .int .u32 0] (0, 0) _ rfl (setRow_heap _ _ _ _ 47 _ Z) Try.underlying47 rfl infoF) rfl ⟨rfl, below_setRow (below_alloc (Below.refl _ _) _) (Nat.le_refl _) _⟩
theorem npeek (w : World) (va : Int) (u : Bool) : Calls Try.prog 32 #[.pointer none, .int .u32 va, .bool u] w fun e w' => e = .returned (.tuple #[.int .u8 0, .agg #[.int .i64 1, .int .u32 va, .int .u32 0]]) ∧ Below w.heap.size w w' := by
  have Z := heap_alloc_new w (.cells #[.int .i64 0, .int .u32 0, .int .u32 0] 47 (0, 0))
  go_enter Try.func32, Try.ntmps32
  go_wp2_with (first
    | (refine wpList_store_row rfl 47 (.tmp 7) (.tmp 15) rfl w.heap.size #[.int .i64 1, .int .u32 va, .int .u32 0] rfl rfl _ _ Z infoF rfl (by kernel_rfl) ?_))
  refine bodyPost_ret (results_tc rfl _ _ (w.heap.size) 47 #[.int .i64 1, .int .u32 va, .int .u32 0] (0, 0) _ rfl (setRow_heap _ _ _ _ 47 _ Z) Try.underlying47 rfl infoF) rfl ⟨rfl, below_setRow (below_alloc (Below.refl _ _) _) (Nat.le_refl _) _⟩
theorem nprobe (w : World) (va n : Int) (u wr : Bool) : Calls Try.prog 35 #[.pointer none, .int .u32 va, .int .i64 n, .bool u, .bool wr] w fun e w' => e = .returned (.agg #[.int .i64 1, .int .u32 va, .int .u32 0]) ∧ Below w.heap.size w w' := by
  have Z := heap_alloc_new w (.cells #[.int .i64 0, .int .u32 0, .int .u32 0] 47 (0, 0))
  go_enter Try.func35, Try.ntmps35
  go_wp2_with (first
    | (refine wpList_store_row rfl 47 (.tmp 10) (.tmp 16) rfl w.heap.size #[.int .i64 1, .int .u32 va, .int .u32 0] rfl rfl _ _ Z infoF rfl (by kernel_rfl) ?_))
  refine bodyPost_ret (results_cell_row rfl _ _ (w.heap.size) 47 #[.int .i64 1, .int .u32 va, .int .u32 0] (0, 0) _ rfl (setRow_heap _ _ _ _ 47 _ Z) Try.underlying47 rfl infoF) rfl ⟨rfl, below_setRow (below_alloc (Below.refl _ _) _) (Nat.le_refl _) _⟩
theorem nstore (w : World) (va : Int) (u : Bool) (A : Option Addr) (k c : Nat) : Calls Try.prog 38 #[.pointer none, .int .u32 va, .bool u, .slice A k c] w fun e w' => e = .returned (.agg #[.int .i64 1, .int .u32 va, .int .u32 0]) ∧ Below w.heap.size w w' := by
  have Z := heap_alloc_new w (.cells #[.int .i64 0, .int .u32 0, .int .u32 0] 47 (0, 0))
  go_enter Try.func38, Try.ntmps38
  go_wp2_with (first
    | (refine wpList_store_row rfl 47 (.tmp 8) (.tmp 18) rfl w.heap.size #[.int .i64 1, .int .u32 va, .int .u32 0] rfl rfl _ _ Z infoF rfl (by kernel_rfl) ?_))
  refine bodyPost_ret (results_cell_row rfl _ _ (w.heap.size) 47 #[.int .i64 1, .int .u32 va, .int .u32 0] (0, 0) _ rfl (setRow_heap _ _ _ _ 47 _ Z) Try.underlying47 rfl infoF) rfl ⟨rfl, below_setRow (below_alloc (Below.refl _ _) _) (Nat.le_refl _) _⟩
theorem same_m (w : World) (A0 A1 : Option Addr) (n c0 c1 : Nat) (l : List Int) (hl : n ≤ 8) (h0 : ReadsInt w .u32 A0 n l) (h1 : ReadsInt w .u32 A1 n l) :
    Calls Try.prog 75 #[.slice A0 n c0, .slice A1 n c1] w fun e w' => e = .returned (.bool true) ∧ ∃ m, w' = w.drewN m := by
  have := h0.1
  subst this
  exact same_call w A0 A1 c0 c1 l hl h0 h1
set_option maxRecDepth 100000 in
set_option maxHeartbeats 8000000 in
theorem same_yes (w0 WF : World) (F : Nat → Prop) (w : World) (L R : LocR) (v vp ve : Value) (T : Tabs) (pl : Bool) (ps : List (Int × Int)) (l : List Int) (h : DU w0 WF F w L R v vp ve T ps l T pl ps l) :
    Calls Try.prog 52 #[.pointer (some ⟨L.r, 0, none⟩), .pointer (some ⟨L.m, 0, none⟩), .pointer (some ⟨R.m, 0, none⟩)] w fun e w' => e = .returned (.bool true) ∧ Below w.heap.size w w' := by
  have D := Aside0.mk h
  obtain ⟨Ap, cp, rfl⟩ := own_val h.r.tlb.op
  have c0 : w.cell? ⟨R.m, 0, none⟩ = some (.pointer (some ⟨R.r, 0, none⟩)) := h.r.cell 0
  have cF := h.r.ram.field.2.2
  have BY : Aside0 (Calls Try.prog 37 #[.pointer (some ⟨L.r, 0, none⟩), .int .u32 0, .int .i64 l.length] w fun e w' => ∃ b' c', e = .returned (.tuple #[.slice (some ⟨b', 0, none⟩) l.length c', .int .i64 0]) ∧ w'.ownsRow w.heap.size 5 1 (.slice (some ⟨b', 0, none⟩) l.length c') l.length (nums .u8 l) ∧ Below w.heap.size w w') := ⟨bytes_n w _ L.r L.b l.length L.c l l 0 l.length (by decide) h.m.ram (by omega) (by rw [List.drop_zero, List.take_length])⟩
  obtain ⟨S, hS⟩ : ∃ S, S = strOfNums l := ⟨_, rfl⟩
  have ST := Aside0.mk (fun (w : World) (A : Option Addr) (c : Nat) (h : ReadsInt w .u8 A l.length l) => (by rw [hS]; exact string_of_reads (P := Try.prog) Try.underlying22 Try.underlying5 Try.underlying9 h : (convert 22 9 (.slice A l.length c)).run Try.prog w = .ok (.string S) w))
  have hm24 : l.length ≤ 16777216 := h.m.ram.2.2.2.2
  have hl8 : ps.length ≤ 8 := h.r.tlb.2.2.2.2.2
  clear h hS
  go_enter Try.func52, Try.ntmps52
  go_wp2_with (first
    | (go_at_call 37; (with_reducible refine (BY.out).mono ?_); rintro e w2 ⟨b2, c2, rfl, o2, hb2⟩; have D2 := Aside0.mk (D.out.then hb2); have O2 := Aside0.mk o2; have B2 := Aside0.mk hb2; clear o2 hb2))
  have s1 := ST.out w2 _ c2 (own_reads' O2.out)
  have s2 := ST.out w2 _ R.c (own_reads' D2.out.r.ram.2.2.1)
  have s3 := ST.out w2.drew _ c2 (own_reads' (own_then O2.out ((Below.refl _ _).drew)))
  have s4 := ST.out w2.drew _ R.c (own_reads' (D2.out.then ((Below.refl _ _).drew)).r.ram.2.2.1)
  have hT : Aside0 (∀ W', Below w2.heap.size w2 W' → W'.cell? ⟨R.m, 0, none⟩ = some (.pointer (some ⟨R.r, 0, none⟩)) ∧ W'.cell? ⟨R.m, 1, none⟩ = some (.pointer (some ⟨R.t, 0, none⟩)) ∧ W'.cell? ⟨R.m, 2, none⟩ = some (.int .u32 T.p0b) ∧ W'.cell? ⟨R.m, 3, none⟩ = some (.int .u32 T.p0l) ∧ W'.cell? ⟨R.m, 4, none⟩ = some (.int .u32 T.sb) ∧ W'.cell? ⟨R.m, 5, none⟩ = some (.int .u32 T.sl) ∧ W'.cell? ⟨R.m, 6, none⟩ = some (.int .u32 T.men) ∧ W'.cell? ⟨R.r, 0, none⟩ = some (.slice (some ⟨R.b, 0, none⟩) l.length R.c) ∧ W'.cell? ⟨R.t, 0, none⟩ = some (.slice Ap ps.length cp) ∧ (convert 22 9 (.slice (some ⟨b2, 0, none⟩) l.length c2)).run Try.prog W' = .ok (.string S) W' ∧ (convert 22 9 (.slice (some ⟨R.b, 0, none⟩) l.length R.c)).run Try.prog W' = .ok (.string S) W') := ⟨fun W' hW => ⟨(D2.out.then hW).r.cell 0, (D2.out.then hW).r.cell 1, (D2.out.then hW).r.cell 2, (D2.out.then hW).r.cell 3, (D2.out.then hW).r.cell 4, (D2.out.then hW).r.cell 5, (D2.out.then hW).r.cell 6, (D2.out.then hW).r.ram.field.2.2, (D2.out.then hW).r.tlb.f0, ST.out W' _ c2 (own_reads' (own_then O2.out hW)), ST.out W' _ R.c (own_reads' (D2.out.then hW).r.ram.2.2.1)⟩⟩
  have hT0 := hT.out w2 (Below.refl _ _)
  clear c0 cF
  go_region_held3 (fun W' => W'.cell? ⟨R.m, 0, none⟩ = some (.pointer (some ⟨R.r, 0, none⟩)) ∧ W'.cell? ⟨R.m, 1, none⟩ = some (.pointer (some ⟨R.t, 0, none⟩)) ∧ W'.cell? ⟨R.m, 2, none⟩ = some (.int .u32 T.p0b) ∧ W'.cell? ⟨R.m, 3, none⟩ = some (.int .u32 T.p0l) ∧ W'.cell? ⟨R.m, 4, none⟩ = some (.int .u32 T.sb) ∧ W'.cell? ⟨R.m, 5, none⟩ = some (.int .u32 T.sl) ∧ W'.cell? ⟨R.m, 6, none⟩ = some (.int .u32 T.men) ∧ W'.cell? ⟨R.r, 0, none⟩ = some (.slice (some ⟨R.b, 0, none⟩) l.length R.c) ∧ W'.cell? ⟨R.t, 0, none⟩ = some (.slice Ap ps.length cp) ∧ (convert 22 9 (.slice (some ⟨b2, 0, none⟩) l.length c2)).run Try.prog W' = .ok (.string S) W' ∧ (convert 22 9 (.slice (some ⟨R.b, 0, none⟩) l.length R.c)).run Try.prog W' = .ok (.string S) W')
    (first | exact hT.out _ (by assumption) | exact hT.out _ ((Below.refl _ _).drew) | exact hT.out _ B3.out | exact hT.out _ B4.out | exact hT.out _ B5.out)
    (first
    | (go_at_call 33; (with_reducible refine (mbuf_call _ _ L v T ps l (D2.out.then ((Below.refl _ _).drew)).m).mono ?_); rintro e w3 ⟨A3, c3, rfl, o3, hb3⟩; have B3 := Aside0.mk (below_step ((Below.refl w2.heap.size w2).drew) hb3); have O3 := Aside0.mk o3; have t1 := ST.out w3 _ c2 (own_reads' (own_then O2.out B3.out)); have t2 := ST.out w3 _ R.c (own_reads' (D2.out.then B3.out).r.ram.2.2.1); clear o3 hb3)
    | (go_at_call 75; (with_reducible refine (same_m _ _ _ _ _ _ _ hl8 (own_reads' O3.out) (own_reads' (D2.out.then B3.out).r.tlb.op)).mono ?_); rintro e w4 ⟨rfl, m4, rfl⟩; have B4 := Aside0.mk (pw_below_drewN B3.out m4); have t3 := ST.out (w3.drewN m4) _ c2 (own_reads' (own_then O2.out B4.out)); have t4 := ST.out (w3.drewN m4) _ R.c (own_reads' (D2.out.then B4.out).r.ram.2.2.1))
    | (go_at_call 53; (with_reducible refine (mtables_call _ _ L v T ps l (D2.out.then B4.out).m).mono ?_); rintro e w5 ⟨rfl, hb5⟩; have B5 := Aside0.mk (below_step B4.out hb5); have t5 := ST.out w5 _ c2 (own_reads' (own_then O2.out B5.out)); have t6 := ST.out w5 _ R.c (own_reads' (D2.out.then B5.out).r.ram.2.2.1); clear hb5))
  all_goals (
    go_wp2
    go_ret
    exact ⟨rfl, below_step B2.out B5.out⟩)
end Go.Proofs.Ytiogbgjeimdgmaa.RefWalk
