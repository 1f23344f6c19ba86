/- The document's queue: Cycle, walked. -/
import Derived.Test.YtiogbgjeimdgmaaRefU
namespace Go.Proofs.Ytiogbgjeimdgmaa.RefWalk
open Go.Proofs.YtiogbgjeimdgmaaW.PrintLast
open Go.RowKit Go.Proofs.Ytiogbgjeimdgmaa.Aid Go.Proofs.YtiogbgjeimdgmaaW.PrintWords Go.Proofs.YtiogbgjeimdgmaaW.PrintLast Go.Proofs.YtiogbgjeimdgmaaW.PrintMore
open Go.Proofs.Ytiogbgjeimdgmaa.MmuWalk (Chg R32 Flt fltV noF flt infoF infoB Tabs row_ty own_keep two_ty box1 row_then foot mine MmuAt MStep NextRow qfoot cycF goodF qCells fill_row)
open Go.Proofs.Ytiogbgjeimdgmaa.RamWalk (Bytes leN own_cell putL)
open Go.Proofs.Ytiogbgjeimdgmaa.TlbWalk (RefAt own_then own_val own_some dropP step_append_run)
attribute [local go_sem] max2_int min2_int max_two min_two max_three min_three max_four min_four   -- for this text's walks alone
set_option linter.unusedVariables false
set_option linter.unusedSimpArgs false
set_option maxRecDepth 100000 in
theorem ycycle_full (w : World) (base y m : Nat) (pc : Int) (u : Bool) (A : Option Addr) (n c : Nat) (bs : List Int) (f : Flt) (h : YAt w base y m pc u (.slice A n c) bs f) (hn : n = 16) :
    Calls Try.prog 42 #[.pointer (some ⟨y, 0, none⟩)] w fun e w' => e = .returned (.tuple #[]) ∧ w = w' := by
  have c3 : w.cell? ⟨y, 3, none⟩ = some (.slice A n c) := h.cell 3
  have hn1 : ((n : Int) == 16) = true := by subst hn; rfl
  have hn2 : (n : Int) = 16 := by omega
  clear h hn
  go_enter Try.func42, Try.ntmps42
  go_wp2
  first | go_end0 | refine bodyPost_ret (results_none rfl _ _ _) rfl ?_
  exact ⟨rfl, rfl⟩
set_option maxRecDepth 100000 in
theorem ycycle_stop (w : World) (base y m : Nat) (pc fk fv fi : Int) (u : Bool) (A : Option Addr) (n c : Nat) (bs : List Int) (h : YAt w base y m pc u (.slice A n c) bs (fk, fv, fi)) (hn : n ≠ 16) (hf : (fk == 0) = false) :
    Calls Try.prog 42 #[.pointer (some ⟨y, 0, none⟩)] w fun e w' => e = .returned (.tuple #[]) ∧ w = w' := by
  have c3 : w.cell? ⟨y, 3, none⟩ = some (.slice A n c) := h.cell 3
  have c4 : w.cell? ⟨y, 4, none⟩ = some (.int .i64 fk) := h.cell 4
  have hn1 : ((n : Int) == 16) = false := beq_eq_false_iff_ne.mpr (by omega)
  have hn2 : ¬ (n : Int) = 16 := by omega
  have hf2 : (fk != 0) = true := by rw [bne, hf]; rfl
  have hf3 : ¬ fk = 0 := by simpa using hf
  clear h hn
  go_enter Try.func42, Try.ntmps42
  go_wp2
  first | go_end0 | refine bodyPost_ret (results_none rfl _ _ _) rfl ?_
  exact ⟨rfl, rfl⟩
set_option maxRecDepth 100000 in
set_option maxHeartbeats 4000000 in
theorem ycycle_flt (w : World) (base y : Nat) (R : LocR) (pc : Int) (u : Bool) (A : Option Addr) (c : Nat) (bs : List Int) (h : YAt w base y R.m pc u (.slice A bs.length c) bs noF) (hn : bs.length ≠ 16) (pa fk fv fi : Int) (hk : (fk == 0) = false)
    (FD : Aside0 (∀ W, Below w.heap.size w W → Calls Try.prog 24 #[.pointer (some ⟨R.m, 0, none⟩), .int .u32 pc, .int .i64 1, .bool u, .bool false, .bool false] W fun e w' => e = .returned (.tuple #[.int .u32 pa, .agg #[.int .i64 fk, .int .u32 fv, .int .u32 fi]]) ∧ Below W.heap.size W w')) :
    Calls Try.prog 42 #[.pointer (some ⟨y, 0, none⟩)] w fun e w' => e = .returned (.tuple #[]) ∧ YAt w' base y R.m pc u (.slice A bs.length c) bs (fk, fv, fi) ∧ Chg (qfoot y (.slice A bs.length c)) w w' := by
  have hk2 : (fk != 0) = true := by rw [bne, hk]; rfl
  have hk3 : ¬ fk = 0 := by simpa using hk
  have c3 : w.cell? ⟨y, 3, none⟩ = some (.slice A bs.length c) := h.cell 3
  have c4 : w.cell? ⟨y, 4, none⟩ = some (.int .i64 0) := h.cell 4
  have hn1 : ((bs.length : Int) == 16) = false := beq_eq_false_iff_ne.mpr (by omega)
  have hn2 : ¬ (bs.length : Int) = 16 := by omega
  have hS : Aside0 (∀ W, Below w.heap.size w W → W.cell? ⟨y, 0, none⟩ = some (.pointer (some ⟨R.m, 0, none⟩)) ∧ W.cell? ⟨y, 1, none⟩ = some (.int .u32 pc) ∧ W.cell? ⟨y, 2, none⟩ = some (.bool u)) := ⟨fun W hW => ⟨(h.then hW).cell 0, (h.then hW).cell 1, (h.then hW).cell 2⟩⟩
  have Q := Aside0.mk h
  have HN := Aside0.mk hn
  have hS0 := hS.out w (Below.refl _ _)
  clear h hn
  go_enter Try.func42, Try.ntmps42
  go_wp2
  go_region_held3 (fun W => W.cell? ⟨y, 0, none⟩ = some (.pointer (some ⟨R.m, 0, none⟩)) ∧ W.cell? ⟨y, 1, none⟩ = some (.int .u32 pc) ∧ W.cell? ⟨y, 2, none⟩ = some (.bool u))
    (first | exact hS.out _ (by assumption) | exact hS.out _ ((Below.refl _ _).drew) | exact hS.out _ (below_alloc ((Below.refl _ _).drew) _) | exact hS.out _ ((below_alloc (Below.refl _ _) _).drew) | exact hS.out _ B1.out | exact hS.out _ (below_alloc B1.out _) | exact hS.out _ (below_set (below_set (below_set B1.out (Nat.le_refl _)) (Nat.le_refl _)) (Nat.le_refl _)))
    (first
    | (go_at_call 24; (with_reducible refine (FD.out _ ((Below.refl _ _).drew)).mono ?_); rintro e w1 ⟨rfl, hb⟩; have B1 := Aside0.mk (below_step ((Below.refl w.heap.size w).drew) hb); clear hb)
    | (go_at_call 24; (with_reducible refine (FD.out _ ((below_alloc (Below.refl _ _) _).drew)).mono ?_); rintro e w1 ⟨rfl, hb⟩; have B1 := Aside0.mk (below_step ((below_alloc (Below.refl w.heap.size w) (.cells #[.int .i64 0, .int .u32 0, .int .u32 0] 47 (0, 0))).drew) hb); have X1 := Aside0.mk (row_then (show ((w.alloc (.cells #[.int .i64 0, .int .u32 0, .int .u32 0] 47 (0, 0))).drew).heap[w.heap.size]? = _ from heap_alloc_new w _) hb); have y0 := cell_of_row _ _ 0 _ _ _ X1.out; have y1 := cell_of_row _ _ 1 _ _ _ X1.out; have y2 := cell_of_row _ _ 2 _ _ _ X1.out; have g0 := frozen_of_row _ _ 0 _ _ X1.out; have g1 := frozen_of_row _ _ 1 _ _ X1.out; have g2 := frozen_of_row _ _ 2 _ _ X1.out; simp only [List.getElem?_toArray, List.getElem?_cons_zero, List.getElem?_cons_succ] at y0 y1 y2; clear hb))
  rotate_left 1
  have BV := Aside0.mk (below_set (g := w.heap.size) (j := 2) (v := .int .u32 fi) (below_set (g := w.heap.size) (j := 1) (v := .int .u32 fv) (below_set (g := w.heap.size) (j := 0) (v := .int .i64 fk) B1.out (Nat.le_refl _)) (Nat.le_refl _)) (Nat.le_refl _))
  have R1 := Aside0.mk (fill_row X1.out (.int .i64 fk) (.int .u32 fv) (.int .u32 fi))
  clear y0 y1 y2 g0 g1 g2 c3 c4 hS0
  generalize (((w1.setCell ⟨w.heap.size, 0, none⟩ (.int .i64 fk)).setCell ⟨w.heap.size, 1, none⟩ (.int .u32 fv)).setCell ⟨w.heap.size, 2, none⟩ (.int .u32 fi)) = V at *
  generalize w.heap.size = bx at R1 ⊢
  rotate_left 1
  have BV := Aside0.mk (below_alloc B1.out (.cells #[.int .i64 fk, .int .u32 fv, .int .u32 fi] 47 (0, 0)))
  have R1 := Aside0.mk (heap_alloc_new w1 (.cells #[.int .i64 fk, .int .u32 fv, .int .u32 fi] 47 (0, 0)))
  clear c3 c4 hS0
  generalize w1.alloc (.cells #[.int .i64 fk, .int .u32 fv, .int .u32 fi] 47 (0, 0)) = V at *
  generalize w1.heap.size = bx at R1 ⊢
  all_goals (
    have Q5 := Aside0.mk (Q.out.then BV.out)
    have z0 := cell_of_row _ _ 0 _ _ _ R1.out
    have z1 := cell_of_row _ _ 1 _ _ _ R1.out
    have z2 := cell_of_row _ _ 2 _ _ _ R1.out
    have p4 := Q5.out.cell 4
    have p5 := Q5.out.cell 5
    have p6 := Q5.out.cell 6
    have f4 := Q5.out.free 4
    have f5 := Q5.out.free 5
    have f6 := Q5.out.free 6
    simp only [qCells, noF, List.getElem?_toArray, List.getElem?_cons_zero, List.getElem?_cons_succ] at z0 z1 z2 p4 p5 p6
    have E := Aside0.mk (yq_fault Q5.out fk fv fi)
    go_wp2
    first | go_end0 | refine bodyPost_ret (results_none rfl _ _ _) rfl ?_
    exact ⟨rfl, E.out.1, (Chg.of_below BV.out _).trans E.out.2 (fun i _ hi => .inl hi)⟩)
/-- Two appends, the byte laid ahead of the first. -/
theorem two_aps (V W : World) (e b : Nat) (bs : List Int) (x : Int) (A : Option Addr) (c : Nat) (fr : Nat × Nat) (cs : Array Value) (hB : Below V.heap.size V W) (he : V.heap.size ≤ e) (hne : e ≠ b) (ho : W.ownsRow V.heap.size 5 1 (.slice (some ⟨e, 0, none⟩) 0 0) 0 []) (hr : ReadsInt W .u8 A bs.length bs) (hb : W.heap[b]? = some (.cells #[.int .u8 x] 5 fr)) (hl : bs.length ≤ 16) :
    ∃ v1 w1 v2 w2, (Builtin.append_ #[22, 22] 22 #[.slice (some ⟨e, 0, none⟩) 0 0, .slice A bs.length c]).run Try.prog W = .ok v1 w1 ∧ (Builtin.append_ #[22, 22] 22 #[v1, .slice (some ⟨b, 0, none⟩) 1 1]).run Try.prog w1 = .ok v2 w2 ∧
      Below V.heap.size V w1 ∧ Below V.heap.size V w2 ∧ w2.ownsRow V.heap.size 5 1 v2 (bs ++ [x]).length (nums .u8 (bs ++ [x])) := by
  obtain ⟨v1, w1, r1, o1, g1, h1⟩ := ap_run W V.heap.size (.slice (some ⟨e, 0, none⟩) 0 0) [] bs A bs.length c ho hr hB.size (by simp; omega)
  have b1 := hB.grown g1 hB.size (fun k hk => by simp only [Value.ownBlock, Option.some.injEq] at hk; omega)
  have hb1 : w1.heap[b]? = some (.cells #[.int .u8 x] 5 fr) := (g1.block b (Array.getElem?_eq_some_iff.1 hb).1 (fun k => by simp only [Value.ownBlock, Option.some.injEq] at k; omega)).trans hb
  have hv1 : ∀ k, v1.ownBlock = some k → V.heap.size ≤ k := fun k hk => own_base o1 k hk
  rw [List.nil_append] at o1
  obtain ⟨v2, w2, r2, o2, g2, h2⟩ := ap_run w1 V.heap.size v1 bs [x] (some ⟨b, 0, none⟩) 1 1 o1 (reads_one hb1) b1.size (by omega)
  exact ⟨v1, w1, v2, w2, r1, r2, b1, b1.grown g2 b1.size hv1, o2⟩
/-- Two appends, the byte laid between them. -/
theorem two_aps_between (V W : World) (e : Nat) (bs : List Int) (x : Int) (A : Option Addr) (c : Nat) (hB : Below V.heap.size V W) (he : V.heap.size ≤ e) (ho : W.ownsRow V.heap.size 5 1 (.slice (some ⟨e, 0, none⟩) 0 0) 0 []) (hr : ReadsInt W .u8 A bs.length bs) (hl : bs.length ≤ 16) :
    ∃ v1 w1 v2 w2, (Builtin.append_ #[22, 22] 22 #[.slice (some ⟨e, 0, none⟩) 0 0, .slice A bs.length c]).run Try.prog W = .ok v1 w1 ∧ (Builtin.append_ #[22, 22] 22 #[v1, .slice (some ⟨w1.heap.size, 0, none⟩) 1 1]).run Try.prog (w1.alloc (.cells #[.int .u8 x] 5 (0, 0))) = .ok v2 w2 ∧
      Below V.heap.size V w1 ∧ Below V.heap.size V w2 ∧ w2.ownsRow V.heap.size 5 1 v2 (bs ++ [x]).length (nums .u8 (bs ++ [x])) := by
  obtain ⟨v1, w1, r1, o1, g1, h1⟩ := ap_run W V.heap.size (.slice (some ⟨e, 0, none⟩) 0 0) [] bs A bs.length c ho hr hB.size (by simp; omega)
  have b1 := hB.grown g1 hB.size (fun k hk => by simp only [Value.ownBlock, Option.some.injEq] at hk; omega)
  rw [List.nil_append] at o1
  have o1' := own_then o1 (below_alloc (Below.refl _ _) (.cells #[.int .u8 x] 5 (0, 0)))
  have b2 := below_alloc b1 (.cells #[.int .u8 x] 5 (0, 0))
  obtain ⟨v2, w2, r2, o2, g2, h2⟩ := ap_run (w1.alloc (.cells #[.int .u8 x] 5 (0, 0))) V.heap.size v1 bs [x] (some ⟨w1.heap.size, 0, none⟩) 1 1 o1' (reads_one (heap_alloc_new w1 _)) b2.size (by omega)
  exact ⟨v1, w1, v2, w2, r1, r2, b1, b2.grown g2 b2.size (fun k hk => own_base o1' k hk), o2⟩
/-- What has come up, as bits. -/
def bz (n : Nat) : Array Bool := ((List.range 25).map (fun i => n.testBit i)).toArray
/-- Behind both appends. -/
theorem y_fin {V w2 : World} {base y m : Nat} {pc : Int} {u : Bool} {vb v2 : Value} {bs : List Int} {x : Int} {f : Flt} {n : Nat} (hl : (bs ++ [x]).length = n) (Q : YAt V base y m pc u vb bs f) (b2 : Below V.heap.size V w2) (o : w2.ownsRow V.heap.size 5 1 v2 n (nums .u8 (bs ++ [x]))) :
    w2.cell? ⟨y, 1, none⟩ = some (.int .u32 pc) ∧ w2.cell? ⟨y, 3, none⟩ = some vb ∧ w2.frozen? ⟨y, 1, none⟩ = false ∧ w2.frozen? ⟨y, 3, none⟩ = false ∧ (w2.setCell ⟨y, 3, none⟩ v2).cell? ⟨y, 1, none⟩ = some (.int .u32 pc) ∧
    YAt ((w2.setCell ⟨y, 3, none⟩ v2).setCell ⟨y, 1, none⟩ (.int .u32 ((pc + 1) % 4294967296))) base y m ((pc + 1) % 4294967296) u v2 (bs ++ [x]) f ∧ NextRow V vb v2 ∧ Chg (qfoot y vb) V ((w2.setCell ⟨y, 3, none⟩ v2).setCell ⟨y, 1, none⟩ (.int .u32 ((pc + 1) % 4294967296))) := by
  have hat : v2.ownBlock = vb.ownBlock ∨ ∃ b, v2.ownBlock = some b ∧ V.heap.size ≤ b := by
    rcases o.2 with ⟨_, h0⟩ | ⟨b', c', cur, hv, hb, _⟩
    · simp at hl; omega
    · exact .inr ⟨b', by rw [hv]; rfl, hb⟩
  exact yq_append Q hl (own_less o (by have := Q.ge; have := Q.lt; omega)) ⟨b2.os, b2.tape, b2.output, b2.size, fun k hk _ => b2.block k hk⟩ hat _
set_option maxRecDepth 100000 in
set_option maxHeartbeats 8000000 in
theorem ycycle_byte (w : World) (base y : Nat) (R : LocR) (vp ve : Value) (T : Tabs) (pl : Bool) (qs : List (Int × Int)) (l : List Int) (pc : Int) (u : Bool) (A : Option Addr) (c : Nat) (bs : List Int) (r : RmAt w base R vp ve T pl qs l) (h : YAt w base y R.m pc u (.slice A bs.length c) bs noF) (hl : bs.length < 16) (pa : Nat) (hpa : pa < l.length) (x : Int) (hx : l.getD pa 0 = x)
    (FD : Aside0 (∀ W, Below w.heap.size w W → Calls Try.prog 24 #[.pointer (some ⟨R.m, 0, none⟩), .int .u32 pc, .int .i64 1, .bool u, .bool false, .bool false] W fun e w' => e = .returned (.tuple #[.int .u32 pa, .agg #[.int .i64 0, .int .u32 0, .int .u32 0]]) ∧ Below W.heap.size W w')) :
    Calls Try.prog 42 #[.pointer (some ⟨y, 0, none⟩)] w fun e w' => ∃ vb', e = .returned (.tuple #[]) ∧ YAt w' base y R.m ((pc + 1) % 4294967296) u vb' (bs ++ [x]) noF ∧ NextRow w (.slice A bs.length c) vb' ∧ Chg (qfoot y (.slice A bs.length c)) w w' := by
  have hn : bs.length ≠ 16 := by omega
  have HL := Aside0.mk hl
  have RM := Aside0.mk r
  have hm24 : l.length ≤ 16777216 := r.ram.2.2.2.2
  have hp1 : (pa : Int) < l.length := by omega
  have hp0 : (0 : Int) ≤ pa := by omega
  have HX := Aside0.mk hx
  have HPA := Aside0.mk hpa
  clear r hl hx hpa
  have c3 : w.cell? ⟨y, 3, none⟩ = some (.slice A bs.length c) := h.cell 3
  have c4 : w.cell? ⟨y, 4, none⟩ = some (.int .i64 0) := h.cell 4
  have hn1 : ((bs.length : Int) == 16) = false := beq_eq_false_iff_ne.mpr (by omega)
  have hn2 : ¬ (bs.length : Int) = 16 := by omega
  have hS : Aside0 (∀ W, Below w.heap.size w W → W.cell? ⟨y, 0, none⟩ = some (.pointer (some ⟨R.m, 0, none⟩)) ∧ W.cell? ⟨y, 1, none⟩ = some (.int .u32 pc) ∧ W.cell? ⟨y, 2, none⟩ = some (.bool u)) := ⟨fun W hW => ⟨(h.then hW).cell 0, (h.then hW).cell 1, (h.then hW).cell 2⟩⟩
  have Q := Aside0.mk h
  have HN := Aside0.mk hn
  have hS0 := hS.out w (Below.refl _ _)
  clear h hn
  go_enter Try.func42, Try.ntmps42
  go_wp2
  go_region_held3 (fun W => W.cell? ⟨y, 0, none⟩ = some (.pointer (some ⟨R.m, 0, none⟩)) ∧ W.cell? ⟨y, 1, none⟩ = some (.int .u32 pc) ∧ W.cell? ⟨y, 2, none⟩ = some (.bool u))
    (first | exact hS.out _ (by assumption) | exact hS.out _ ((Below.refl _ _).drew) | exact hS.out _ (below_alloc ((Below.refl _ _).drew) _) | exact hS.out _ ((below_alloc (Below.refl _ _) _).drew) | exact hS.out _ B1.out | exact hS.out _ (below_alloc B1.out _) | exact hS.out _ (below_set (below_set (below_set B1.out (Nat.le_refl _)) (Nat.le_refl _)) (Nat.le_refl _)))
    (first
    | (go_at_call 24; (with_reducible refine (FD.out _ ((Below.refl _ _).drew)).mono ?_); rintro e w1 ⟨rfl, hb⟩; have B1 := Aside0.mk (below_step ((Below.refl w.heap.size w).drew) hb); clear hb)
    | (go_at_call 24; (with_reducible refine (FD.out _ ((below_alloc (Below.refl _ _) _).drew)).mono ?_); rintro e w1 ⟨rfl, hb⟩; have B1 := Aside0.mk (below_step ((below_alloc (Below.refl w.heap.size w) (.cells #[.int .i64 0, .int .u32 0, .int .u32 0] 47 (0, 0))).drew) hb); have X1 := Aside0.mk (row_then (show ((w.alloc (.cells #[.int .i64 0, .int .u32 0, .int .u32 0] 47 (0, 0))).drew).heap[w.heap.size]? = _ from heap_alloc_new w _) hb); have y0 := cell_of_row _ _ 0 _ _ _ X1.out; have y1 := cell_of_row _ _ 1 _ _ _ X1.out; have y2 := cell_of_row _ _ 2 _ _ _ X1.out; have g0 := frozen_of_row _ _ 0 _ _ X1.out; have g1 := frozen_of_row _ _ 1 _ _ X1.out; have g2 := frozen_of_row _ _ 2 _ _ X1.out; simp only [List.getElem?_toArray, List.getElem?_cons_zero, List.getElem?_cons_succ] at y0 y1 y2; clear hb))
  rotate_left 1
  have BV := Aside0.mk (below_set (g := w.heap.size) (j := 2) (v := .int .u32 0) (below_set (g := w.heap.size) (j := 1) (v := .int .u32 0) (below_set (g := w.heap.size) (j := 0) (v := .int .i64 0) B1.out (Nat.le_refl _)) (Nat.le_refl _)) (Nat.le_refl _))
  have R1 := Aside0.mk (fill_row X1.out (.int .i64 0) (.int .u32 0) (.int .u32 0))
  clear y0 y1 y2 g0 g1 g2 c3 c4 hS0
  generalize (((w1.setCell ⟨w.heap.size, 0, none⟩ (.int .i64 0)).setCell ⟨w.heap.size, 1, none⟩ (.int .u32 0)).setCell ⟨w.heap.size, 2, none⟩ (.int .u32 0)) = V at *
  generalize w.heap.size = bx at R1 ⊢
  rotate_left 1
  have BV := Aside0.mk (below_alloc B1.out (.cells #[.int .i64 0, .int .u32 0, .int .u32 0] 47 (0, 0)))
  have R1 := Aside0.mk (heap_alloc_new w1 (.cells #[.int .i64 0, .int .u32 0, .int .u32 0] 47 (0, 0)))
  clear c3 c4 hS0
  generalize w1.alloc (.cells #[.int .i64 0, .int .u32 0, .int .u32 0] 47 (0, 0)) = V at *
  generalize w1.heap.size = bx at R1 ⊢
  all_goals (
    have Q5 := Aside0.mk (Q.out.then BV.out)
    have R5 := Aside0.mk (RM.out.then BV.out)
    have z0 := cell_of_row _ _ 0 _ _ _ R1.out
    simp only [noF, List.getElem?_toArray, List.getElem?_cons_zero] at z0
    have hT : Aside0 (∀ W, Below V.heap.size V W → W.cell? ⟨y, 3, none⟩ = some (.slice A bs.length c) ∧ W.cell? ⟨y, 0, none⟩ = some (.pointer (some ⟨R.m, 0, none⟩)) ∧ W.cell? ⟨R.m, 0, none⟩ = some (.pointer (some ⟨R.r, 0, none⟩)) ∧ W.cell? ⟨R.r, 0, none⟩ = some (.slice (some ⟨R.b, 0, none⟩) l.length R.c) ∧ W.cell? ⟨R.b, pa, none⟩ = some (.int .u8 x)) := ⟨fun W hW => ⟨(Q5.out.then hW).cell 3, (Q5.out.then hW).cell 0, (R5.out.then hW).cell 0, (R5.out.then hW).ram.field.2.2, by rw [← HX.out]; exact own_cell (R5.out.then hW).ram.2.2.1 HPA.out⟩⟩
    have hT0 := hT.out V (Below.refl _ _)
    have BD := Aside0.mk (below_alloc ((Below.refl V.heap.size V).drew) (.cells #[] 5 (0, 0)))
    have BDB := Aside0.mk (below_alloc BD.out (.cells #[.int .u8 x] 5 (0, 0)))
    have BB := Aside0.mk (below_alloc ((Below.refl V.heap.size V).drew) (.cells #[.int .u8 x] 5 (0, 0)))
    have BBD := Aside0.mk (below_alloc BB.out (.cells #[] 5 (0, 0)))
    have hsE : (V.drew.alloc (.cells #[] 5 (0, 0))).heap.size = V.heap.size + 1 := Array.size_push _
    have hsB : (V.drew.alloc (.cells #[.int .u8 x] 5 (0, 0))).heap.size = V.heap.size + 1 := Array.size_push _
    have oE := World.ownsRow_lit (base := V.heap.size) (e := 5) (size := 1) V.drew #[] 0 (Nat.le_refl _) (Nat.zero_le _) rfl
    have oBE := World.ownsRow_lit (base := V.heap.size) (e := 5) (size := 1) (V.drew.alloc (.cells #[.int .u8 x] 5 (0, 0))) #[] 0 BB.out.size (Nat.zero_le _) rfl
    rw [hsB] at oBE
    have hEB := heap_alloc_new (V.drew.alloc (.cells #[] 5 (0, 0))) (.cells #[.int .u8 x] 5 (0, 0))
    rw [hsE] at hEB
    obtain ⟨av1, aw1, av2, aw2, ar1, ar2, ab1, ab2, ao⟩ := two_aps_between V (V.drew.alloc (.cells #[] 5 (0, 0))) V.heap.size bs x A c BD.out (Nat.le_refl _) oE ((own_reads' (Q5.out.then BD.out).row)) (Nat.le_of_lt HL.out)
    obtain ⟨bv1, bw1, bv2, bw2, br1, br2, bb1, bb2, bo⟩ := two_aps V ((V.drew.alloc (.cells #[] 5 (0, 0))).alloc (.cells #[.int .u8 x] 5 (0, 0))) V.heap.size (V.heap.size + 1) bs x A c (0, 0) #[] BDB.out (Nat.le_refl _) (by omega) (own_then oE (below_alloc (Below.refl _ _) _)) ((own_reads' (Q5.out.then BDB.out).row)) hEB (Nat.le_of_lt HL.out)
    obtain ⟨cv1, cw1, cv2, cw2, cr1, cr2, cb1, cb2, co⟩ := two_aps V ((V.drew.alloc (.cells #[.int .u8 x] 5 (0, 0))).alloc (.cells #[] 5 (0, 0))) (V.heap.size + 1) V.heap.size bs x A c (0, 0) #[] BBD.out (by omega) (by omega) oBE ((own_reads' (Q5.out.then BBD.out).row)) (row_then (show (V.drew.alloc (.cells #[.int .u8 x] 5 (0, 0))).heap[V.heap.size]? = _ from heap_alloc_new V.drew _) (below_alloc (Below.refl _ _) _)) (Nat.le_of_lt HL.out)
    have AR1 := Aside0.mk ar1
    have AR2 := Aside0.mk ar2
    have BR1 := Aside0.mk br1
    have BR2 := Aside0.mk br2
    have CR1 := Aside0.mk cr1
    have CR2 := Aside0.mk cr2
    have AB1 := Aside0.mk ab1
    have AB1B := Aside0.mk (below_alloc ab1 (.cells #[.int .u8 x] 5 (0, 0)))
    have AB2 := Aside0.mk ab2
    have BB1 := Aside0.mk bb1
    have BB2 := Aside0.mk bb2
    have CB1 := Aside0.mk cb1
    have CB2 := Aside0.mk cb2
    have hlx : (bs ++ [x]).length = bs.length + 1 := by simp
    rw [hlx] at ao bo co
    obtain ⟨AA, ac, rfl⟩ := own_val ao
    obtain ⟨BA, bc, rfl⟩ := own_val bo
    obtain ⟨CA, cc, rfl⟩ := own_val co
    have EA := Aside0.mk (y_fin hlx Q5.out ab2 ao)
    have EB := Aside0.mk (y_fin hlx Q5.out bb2 bo)
    have EC := Aside0.mk (y_fin hlx Q5.out cb2 co)
    have a1 := EA.out.1
    have a2 := EA.out.2.1
    have a3 := EA.out.2.2.1
    have a4 := EA.out.2.2.2.1
    have a5 := EA.out.2.2.2.2.1
    have b1 := EB.out.1
    have b2 := EB.out.2.1
    have b3 := EB.out.2.2.1
    have b4 := EB.out.2.2.2.1
    have b5 := EB.out.2.2.2.2.1
    have d1 := EC.out.1
    have d2 := EC.out.2.1
    have d3 := EC.out.2.2.1
    have d4 := EC.out.2.2.2.1
    have d5 := EC.out.2.2.2.2.1
    clear ar1 ar2 br1 br2 cr1 cr2 ab1 ab2 bb1 bb2 cb1 cb2 ao bo co oE oBE hEB
    go_wp2_with fail
    refine start_ (n := 25) (S := (fun W => W.cell? ⟨y, 3, none⟩ = some (.slice A bs.length c) ∧ W.cell? ⟨y, 0, none⟩ = some (.pointer (some ⟨R.m, 0, none⟩)) ∧ W.cell? ⟨R.m, 0, none⟩ = some (.pointer (some ⟨R.r, 0, none⟩)) ∧ W.cell? ⟨R.r, 0, none⟩ = some (.slice (some ⟨R.b, 0, none⟩) l.length R.c) ∧ W.cell? ⟨R.b, pa, none⟩ = some (.int .u8 x))) (ds := [24]) #[false, false, false, false, false, false, false, false, false, false, false, false, false, false, false, false, false, false, false, false, false, false, false, false, false] (by kernel_rfl) rfl rfl (hT.out _ ((Below.refl _ _).drew)) (fun hHeld => ?_)
    refine take_ (i := 0) (N := some 41) (v := ?_) (a' := ?_) (bz 1) rfl rfl (by kernel_rfl) (fun _ _ _ h => h) (Or.inl ⟨by rfl, ?_⟩) hHeld ?_ ?_
    rotate_left
    · rintro w' ⟨s0, s1, s2, s3, s4⟩
      go_simp
      with_reducible rfl
    rotate_left
    · simp only [Act.put, List.setIfInBounds_toArray, List.set_cons_zero, List.set_cons_succ]
      rfl
    refine take_ (i := 2) (N := some 43) (v := ?_) (a' := ?_) (bz 5) rfl rfl (by kernel_rfl) (fun _ _ _ h => h) (Or.inl ⟨by rfl, ?_⟩) hHeld ?_ ?_
    rotate_left
    · rintro w' ⟨s0, s1, s2, s3, s4⟩
      go_simp
      with_reducible rfl
    rotate_left
    · simp only [Act.put, List.setIfInBounds_toArray, List.set_cons_zero, List.set_cons_succ]
      rfl
    refine take_ (i := 3) (N := some 44) (v := ?_) (a' := ?_) (bz 13) rfl rfl (by kernel_rfl) (fun _ _ _ h => h) (Or.inl ⟨by rfl, ?_⟩) hHeld ?_ ?_
    rotate_left
    · rintro w' ⟨s0, s1, s2, s3, s4⟩
      go_simp
      with_reducible rfl
    rotate_left
    · simp only [Act.put, List.setIfInBounds_toArray, List.set_cons_zero, List.set_cons_succ]
      rfl
    refine take_ (i := 4) (N := some 45) (v := ?_) (a' := ?_) (bz 29) rfl rfl (by kernel_rfl) (fun _ _ _ h => h) (Or.inl ⟨by rfl, ?_⟩) hHeld ?_ ?_
    rotate_left
    · rintro w' ⟨s0, s1, s2, s3, s4⟩
      go_simp
      with_reducible rfl
    rotate_left
    · simp only [Act.put, List.setIfInBounds_toArray, List.set_cons_zero, List.set_cons_succ]
      rfl
    refine take_ (i := 5) (N := some 46) (v := ?_) (a' := ?_) (bz 61) rfl rfl (by kernel_rfl) (fun _ _ _ h => h) (Or.inl ⟨by rfl, ?_⟩) hHeld ?_ ?_
    rotate_left
    · rintro w' ⟨s0, s1, s2, s3, s4⟩
      go_simp
      with_reducible rfl
    rotate_left
    · simp only [Act.put, List.setIfInBounds_toArray, List.set_cons_zero, List.set_cons_succ]
      rfl
    refine take_ (i := 7) (N := some 48) (v := ?_) (a' := ?_) (bz 189) rfl rfl (by kernel_rfl) (fun _ _ _ h => h) (Or.inl ⟨by rfl, ?_⟩) hHeld ?_ ?_
    rotate_left
    · rintro w' ⟨s0, s1, s2, s3, s4⟩
      go_simp
      with_reducible rfl
    rotate_left
    · simp only [Act.put, List.setIfInBounds_toArray, List.set_cons_zero, List.set_cons_succ]
      rfl
    refine take_ (i := 8) (N := some 49) (v := ?_) (a' := ?_) (bz 445) rfl rfl (by kernel_rfl) (fun _ _ _ h => h) (Or.inl ⟨by rfl, ?_⟩) hHeld ?_ ?_
    rotate_left
    · rintro w' ⟨s0, s1, s2, s3, s4⟩
      go_simp
      with_reducible rfl
    rotate_left
    · simp only [Act.put, List.setIfInBounds_toArray, List.set_cons_zero, List.set_cons_succ]
      rfl
    refine take_ (i := 9) (N := some 50) (v := ?_) (a' := ?_) (bz 957) rfl rfl (by kernel_rfl) (fun _ _ _ h => h) (Or.inl ⟨by rfl, ?_⟩) hHeld ?_ ?_
    rotate_left
    · rintro w' ⟨s0, s1, s2, s3, s4⟩
      go_simp
      with_reducible rfl
    rotate_left
    · simp only [Act.put, List.setIfInBounds_toArray, List.set_cons_zero, List.set_cons_succ]
      rfl
    refine take_ (i := 10) (N := some 51) (v := ?_) (a' := ?_) (bz 1981) rfl rfl (by kernel_rfl) (fun _ _ _ h => h) (Or.inl ⟨by rfl, ?_⟩) hHeld ?_ ?_
    rotate_left
    · rintro w' ⟨s0, s1, s2, s3, s4⟩
      go_simp
      with_reducible rfl
    rotate_left
    · simp only [Act.put, List.setIfInBounds_toArray, List.set_cons_zero, List.set_cons_succ]
      rfl
    refine take_ (i := 11) (N := some 52) (v := ?_) (a' := ?_) (bz 4029) rfl rfl (by kernel_rfl) (fun _ _ _ h => h) (Or.inl ⟨by rfl, ?_⟩) hHeld ?_ ?_
    rotate_left
    · rintro w' ⟨s0, s1, s2, s3, s4⟩
      go_simp
      with_reducible rfl
    rotate_left
    · simp only [Act.put, List.setIfInBounds_toArray, List.set_cons_zero, List.set_cons_succ]
      rfl
    refine take_ (i := 12) (N := some 53) (v := ?_) (a' := ?_) (bz 8125) rfl rfl (by kernel_rfl) (fun _ _ _ h => h) (Or.inl ⟨by rfl, ?_⟩) hHeld ?_ ?_
    rotate_left
    · rintro w' ⟨s0, s1, s2, s3, s4⟩
      go_simp
      with_reducible rfl
    rotate_left
    · simp only [Act.put, List.setIfInBounds_toArray, List.set_cons_zero, List.set_cons_succ]
      rfl
    refine take_ (i := 13) (N := some 54) (v := ?_) (a' := ?_) (bz 16317) rfl rfl (by kernel_rfl) (fun _ _ _ h => h) (Or.inl ⟨by rfl, ?_⟩) hHeld ?_ ?_
    rotate_left
    · rintro w' ⟨s0, s1, s2, s3, s4⟩
      go_simp
      with_reducible rfl
    rotate_left
    · simp only [Act.put, List.setIfInBounds_toArray, List.set_cons_zero, List.set_cons_succ]
      rfl
    refine take_ (i := 14) (N := some 55) (v := ?_) (a' := ?_) (bz 32701) rfl rfl (by kernel_rfl) (fun _ _ _ h => h) (Or.inl ⟨by rfl, ?_⟩) hHeld ?_ ?_
    rotate_left
    · rintro w' ⟨s0, s1, s2, s3, s4⟩
      go_simp
      with_reducible rfl
    rotate_left
    · simp only [Act.put, List.setIfInBounds_toArray, List.set_cons_zero, List.set_cons_succ]
      rfl
    refine take_ (i := 15) (N := some 56) (v := ?_) (a' := ?_) (bz 65469) rfl rfl (by kernel_rfl) (fun _ _ _ h => h) (Or.inl ⟨by rfl, ?_⟩) hHeld ?_ ?_
    rotate_left
    · rintro w' ⟨s0, s1, s2, s3, s4⟩
      go_simp
      with_reducible rfl
    rotate_left
    · simp only [Act.put, List.setIfInBounds_toArray, List.set_cons_zero, List.set_cons_succ]
      rfl
    refine take_ (i := 16) (N := some 57) (v := ?_) (a' := ?_) (bz 131005) rfl rfl (by kernel_rfl) (fun _ _ _ h => h) (Or.inl ⟨by rfl, ?_⟩) hHeld ?_ ?_
    rotate_left
    · rintro w' ⟨s0, s1, s2, s3, s4⟩
      go_simp
      with_reducible rfl
    rotate_left
    · simp only [Act.put, List.setIfInBounds_toArray, List.set_cons_zero, List.set_cons_succ]
      rfl
    refine take_ (i := 17) (N := some 58) (v := ?_) (a' := ?_) (bz 262077) rfl rfl (by kernel_rfl) (fun _ _ _ h => h) (Or.inl ⟨by rfl, ?_⟩) hHeld ?_ ?_
    rotate_left
    · rintro w' ⟨s0, s1, s2, s3, s4⟩
      go_simp
      with_reducible rfl
    rotate_left
    · simp only [Act.put, List.setIfInBounds_toArray, List.set_cons_zero, List.set_cons_succ]
      rfl
    refine take_ (i := 18) (N := some 59) (v := ?_) (a' := ?_) (bz 524221) rfl rfl (by kernel_rfl) (fun _ _ _ h => h) (Or.inl ⟨by rfl, ?_⟩) hHeld ?_ ?_
    rotate_left
    · rintro w' ⟨s0, s1, s2, s3, s4⟩
      go_simp
      with_reducible rfl
    rotate_left
    · simp only [Act.put, List.setIfInBounds_toArray, List.set_cons_zero, List.set_cons_succ]
      rfl
    refine take_ (i := 19) (N := some 60) (v := ?_) (a' := ?_) (bz 1048509) rfl rfl (by kernel_rfl) (fun _ _ _ h => h) (Or.inl ⟨by rfl, ?_⟩) hHeld ?_ ?_
    rotate_left
    · rintro w' ⟨s0, s1, s2, s3, s4⟩
      go_simp
      with_reducible rfl
    rotate_left
    · simp only [Act.put, List.setIfInBounds_toArray, List.set_cons_zero, List.set_cons_succ]
      rfl
    refine two_ (i := 1) (j := 20) (Ni := some 42) (Nj := some 61) (bz 1048511) (bz 2097085) rfl rfl rfl rfl (by kernel_rfl) (by decide) (by decide) (fun K hK => ?_) (fun K hK => ?_)
    · refine value_ (w1 := (V.drew.alloc (.cells #[] 5 (0, 0)))) (v := .slice (some ⟨V.heap.size, 0, none⟩) 0 0) (by rfl) rfl (by go_simp; done) ?_
      refine hK.out _ _ (hT.out _ BD.out) (fun hHeld => ?_)
      clear hK K
      refine norm_ (a' := ?_) ?_ ?_
      rotate_left
      · show Act.put _ (some 42) _ = _
        simp only [Act.put, List.setIfInBounds_toArray, List.set_cons_zero, List.set_cons_succ]
        rfl
      refine two_ (i := 6) (j := 20) (Ni := some 47) (Nj := some 61) (bz 1048575) (bz 2097087) rfl rfl rfl rfl (by kernel_rfl) (by decide) (by decide) (fun K hK => ?_) (fun K hK => ?_)
      · refine step_append_run rfl (.tmp 42) (.tmp 46) 22 rfl _ _ _ _ (by rfl) (by rfl) AR1.out ?_
        refine hK.out _ _ (hT.out _ AB1.out) (fun hHeld => ?_)
        clear hK K
        refine norm_ (a' := ?_) ?_ ?_
        rotate_left
        · show Act.put _ (some 47) _ = _
          simp only [Act.put, List.setIfInBounds_toArray, List.set_cons_zero, List.set_cons_succ]
          rfl
        refine one_ (i := 20) (N := some 61) (bz 2097151) rfl rfl (by kernel_rfl) (by decide) (fun K hK => ?_)
        refine value_ (w1 := (aw1.alloc (.cells #[.int .u8 x] 5 (0, 0)))) (v := .slice (some ⟨aw1.heap.size, 0, none⟩) 1 1) (by rfl) rfl (by go_simp; done) ?_
        refine hK.out _ _ (hT.out _ AB1B.out) (fun hHeld => ?_)
        clear hK K
        refine norm_ (a' := ?_) ?_ ?_
        rotate_left
        · show Act.put _ (some 61) _ = _
          simp only [Act.put, List.setIfInBounds_toArray, List.set_cons_zero, List.set_cons_succ]
          rfl
        refine one_ (i := 21) (N := some 62) (bz 4194303) rfl rfl (by kernel_rfl) (by decide) (fun K hK => ?_)
        refine step_append_run rfl (.tmp 47) (.tmp 61) 22 rfl _ _ _ _ (by rfl) (by rfl) AR2.out ?_
        refine hK.out _ _ (hT.out _ AB2.out) (fun hHeld => ?_)
        clear hK K
        refine norm_ (a' := ?_) ?_ ?_
        rotate_left
        · show Act.put _ (some 62) _ = _
          simp only [Act.put, List.setIfInBounds_toArray, List.set_cons_zero, List.set_cons_succ]
          rfl
        refine pure_ (i := 22) (N := some 63) (v := ?_) (a' := ?_) (bz 8388607) rfl rfl (by kernel_rfl) (fun _ _ _ h => h) (Or.inl ⟨by rfl, ?_⟩) ?_ ?_
        rotate_left
        · intro w'
          go_simp
          with_reducible rfl
        rotate_left
        · simp only [Act.put, List.setIfInBounds_toArray, List.set_cons_zero, List.set_cons_succ]
          rfl
        refine pure_ (i := 23) (N := some 64) (v := ?_) (a' := ?_) (bz 16777215) rfl rfl (by kernel_rfl) (fun _ _ _ h => h) (Or.inl ⟨by rfl, ?_⟩) ?_ ?_
        rotate_left
        · intro w'
          go_simp
          with_reducible rfl
        rotate_left
        · simp only [Act.put, List.setIfInBounds_toArray, List.set_cons_zero, List.set_cons_succ]
          rfl
        refine last_ (i := 24) (N := none) (bz 33554431) rfl rfl (by kernel_rfl) (by decide) (fun K hK => ?_)
        refine skip_ (w1 := aw2.setCell ⟨y, 3, none⟩ (.slice AA (bs.length + 1) ac)) (by rfl) rfl (by go_simp; done) ?_
        refine hK.out _ _ ?_
        clear hK K
        refine done_ (by kernel_rfl) ?_
        go_wp2
        first | go_end0 | refine bodyPost_ret (results_none rfl _ _ _) rfl ?_
        exact ⟨_, rfl, EA.out.2.2.2.2.2.1, EA.out.2.2.2.2.2.2.1.up BV.out.size, (Chg.of_below BV.out _).trans EA.out.2.2.2.2.2.2.2 (fun i _ hi => hi)⟩
      · refine value_ (w1 := ((V.drew.alloc (.cells #[] 5 (0, 0))).alloc (.cells #[.int .u8 x] 5 (0, 0)))) (v := .slice (some ⟨V.heap.size + 1, 0, none⟩) 1 1) (by rfl) rfl (by go_simp; done) ?_
        refine hK.out _ _ (hT.out _ BDB.out) (fun hHeld => ?_)
        clear hK K
        refine norm_ (a' := ?_) ?_ ?_
        rotate_left
        · show Act.put _ (some 61) _ = _
          simp only [Act.put, List.setIfInBounds_toArray, List.set_cons_zero, List.set_cons_succ]
          rfl
        refine one_ (i := 6) (N := some 47) (bz 2097151) rfl rfl (by kernel_rfl) (by decide) (fun K hK => ?_)
        refine step_append_run rfl (.tmp 42) (.tmp 46) 22 rfl _ _ _ _ (by rfl) (by rfl) BR1.out ?_
        refine hK.out _ _ (hT.out _ BB1.out) (fun hHeld => ?_)
        clear hK K
        refine norm_ (a' := ?_) ?_ ?_
        rotate_left
        · show Act.put _ (some 47) _ = _
          simp only [Act.put, List.setIfInBounds_toArray, List.set_cons_zero, List.set_cons_succ]
          rfl
        refine one_ (i := 21) (N := some 62) (bz 4194303) rfl rfl (by kernel_rfl) (by decide) (fun K hK => ?_)
        refine step_append_run rfl (.tmp 47) (.tmp 61) 22 rfl _ _ _ _ (by rfl) (by rfl) BR2.out ?_
        refine hK.out _ _ (hT.out _ BB2.out) (fun hHeld => ?_)
        clear hK K
        refine norm_ (a' := ?_) ?_ ?_
        rotate_left
        · show Act.put _ (some 62) _ = _
          simp only [Act.put, List.setIfInBounds_toArray, List.set_cons_zero, List.set_cons_succ]
          rfl
        refine pure_ (i := 22) (N := some 63) (v := ?_) (a' := ?_) (bz 8388607) rfl rfl (by kernel_rfl) (fun _ _ _ h => h) (Or.inl ⟨by rfl, ?_⟩) ?_ ?_
        rotate_left
        · intro w'
          go_simp
          with_reducible rfl
        rotate_left
        · simp only [Act.put, List.setIfInBounds_toArray, List.set_cons_zero, List.set_cons_succ]
          rfl
        refine pure_ (i := 23) (N := some 64) (v := ?_) (a' := ?_) (bz 16777215) rfl rfl (by kernel_rfl) (fun _ _ _ h => h) (Or.inl ⟨by rfl, ?_⟩) ?_ ?_
        rotate_left
        · intro w'
          go_simp
          with_reducible rfl
        rotate_left
        · simp only [Act.put, List.setIfInBounds_toArray, List.set_cons_zero, List.set_cons_succ]
          rfl
        refine last_ (i := 24) (N := none) (bz 33554431) rfl rfl (by kernel_rfl) (by decide) (fun K hK => ?_)
        refine skip_ (w1 := bw2.setCell ⟨y, 3, none⟩ (.slice BA (bs.length + 1) bc)) (by rfl) rfl (by go_simp; done) ?_
        refine hK.out _ _ ?_
        clear hK K
        refine done_ (by kernel_rfl) ?_
        go_wp2
        first | go_end0 | refine bodyPost_ret (results_none rfl _ _ _) rfl ?_
        exact ⟨_, rfl, EB.out.2.2.2.2.2.1, EB.out.2.2.2.2.2.2.1.up BV.out.size, (Chg.of_below BV.out _).trans EB.out.2.2.2.2.2.2.2 (fun i _ hi => hi)⟩
    · refine value_ (w1 := (V.drew.alloc (.cells #[.int .u8 x] 5 (0, 0)))) (v := .slice (some ⟨V.heap.size, 0, none⟩) 1 1) (by rfl) rfl (by go_simp; done) ?_
      refine hK.out _ _ (hT.out _ BB.out) (fun hHeld => ?_)
      clear hK K
      refine norm_ (a' := ?_) ?_ ?_
      rotate_left
      · show Act.put _ (some 61) _ = _
        simp only [Act.put, List.setIfInBounds_toArray, List.set_cons_zero, List.set_cons_succ]
        rfl
      refine one_ (i := 1) (N := some 42) (bz 2097087) rfl rfl (by kernel_rfl) (by decide) (fun K hK => ?_)
      refine value_ (w1 := ((V.drew.alloc (.cells #[.int .u8 x] 5 (0, 0))).alloc (.cells #[] 5 (0, 0)))) (v := .slice (some ⟨V.heap.size + 1, 0, none⟩) 0 0) (by rfl) rfl (by go_simp; done) ?_
      refine hK.out _ _ (hT.out _ BBD.out) (fun hHeld => ?_)
      clear hK K
      refine norm_ (a' := ?_) ?_ ?_
      rotate_left
      · show Act.put _ (some 42) _ = _
        simp only [Act.put, List.setIfInBounds_toArray, List.set_cons_zero, List.set_cons_succ]
        rfl
      refine one_ (i := 6) (N := some 47) (bz 2097151) rfl rfl (by kernel_rfl) (by decide) (fun K hK => ?_)
      refine step_append_run rfl (.tmp 42) (.tmp 46) 22 rfl _ _ _ _ (by rfl) (by rfl) CR1.out ?_
      refine hK.out _ _ (hT.out _ CB1.out) (fun hHeld => ?_)
      clear hK K
      refine norm_ (a' := ?_) ?_ ?_
      rotate_left
      · show Act.put _ (some 47) _ = _
        simp only [Act.put, List.setIfInBounds_toArray, List.set_cons_zero, List.set_cons_succ]
        rfl
      refine one_ (i := 21) (N := some 62) (bz 4194303) rfl rfl (by kernel_rfl) (by decide) (fun K hK => ?_)
      refine step_append_run rfl (.tmp 47) (.tmp 61) 22 rfl _ _ _ _ (by rfl) (by rfl) CR2.out ?_
      refine hK.out _ _ (hT.out _ CB2.out) (fun hHeld => ?_)
      clear hK K
      refine norm_ (a' := ?_) ?_ ?_
      rotate_left
      · show Act.put _ (some 62) _ = _
        simp only [Act.put, List.setIfInBounds_toArray, List.set_cons_zero, List.set_cons_succ]
        rfl
      refine pure_ (i := 22) (N := some 63) (v := ?_) (a' := ?_) (bz 8388607) rfl rfl (by kernel_rfl) (fun _ _ _ h => h) (Or.inl ⟨by rfl, ?_⟩) ?_ ?_
      rotate_left
      · intro w'
        go_simp
        with_reducible rfl
      rotate_left
      · simp only [Act.put, List.setIfInBounds_toArray, List.set_cons_zero, List.set_cons_succ]
        rfl
      refine pure_ (i := 23) (N := some 64) (v := ?_) (a' := ?_) (bz 16777215) rfl rfl (by kernel_rfl) (fun _ _ _ h => h) (Or.inl ⟨by rfl, ?_⟩) ?_ ?_
      rotate_left
      · intro w'
        go_simp
        with_reducible rfl
      rotate_left
      · simp only [Act.put, List.setIfInBounds_toArray, List.set_cons_zero, List.set_cons_succ]
        rfl
      refine last_ (i := 24) (N := none) (bz 33554431) rfl rfl (by kernel_rfl) (by decide) (fun K hK => ?_)
      refine skip_ (w1 := cw2.setCell ⟨y, 3, none⟩ (.slice CA (bs.length + 1) cc)) (by rfl) rfl (by go_simp; done) ?_
      refine hK.out _ _ ?_
      clear hK K
      refine done_ (by kernel_rfl) ?_
      go_wp2
      first | go_end0 | refine bodyPost_ret (results_none rfl _ _ _) rfl ?_
      exact ⟨_, rfl, EC.out.2.2.2.2.2.1, EC.out.2.2.2.2.2.2.1.up BV.out.size, (Chg.of_below BV.out _).trans EC.out.2.2.2.2.2.2.2 (fun i _ hi => hi)⟩)
end Go.Proofs.Ytiogbgjeimdgmaa.RefWalk
