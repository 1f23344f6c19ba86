/- Steps that are forgotten are not taken back; those behind are: the walk of RegsForgets. -/
import Derived.Test.YtbgcbnlpjjhmhaaRegsJ
import Derived.Test.YtbgcbnlpjjhmhaaWSized
namespace Go.Proofs.YtbgcbnlpjjhmhaaW.PrintWords
open Go.RowKit in
def IsRow (k : IntKind) (w : World) (a : Option Addr) (len cap : Nat) (zs : List Int) : Prop :=
  (a = none ∧ len = 0 ∧ cap = 0 ∧ zs = []) ∨
  ∃ x, a = some x ∧ len ≤ cap ∧ cap ≤ maxLen ∧ zs.length = cap ∧ (∀ i, i < zs.length → w.cell? (x.add i) = some (.int k (zs.getD i 0))) ∧ ∀ n ∈ zs, (Lit.int k n).wf = true
end Go.Proofs.YtbgcbnlpjjhmhaaW.PrintWords
namespace Go.Proofs.Ytbgcbnlpjjhmhaa.RegsWalk
open Go.RowKit Go.Proofs.Ytbgcbnlpjjhmhaa.Aid Go.Proofs.YtbgcbnlpjjhmhaaW.PrintWords Go.Proofs.YtbgcbnlpjjhmhaaW.PrintLast Go.Proofs.YtbgcbnlpjjhmhaaW.PrintMore
set_option linter.unusedVariables false
set_option linter.unusedSimpArgs false
theorem st_then {W W' : World} {m : Nat} {r : Nat → Int} {s p k u t0 t1 t2 t3 t4 sc hh : Int} (h : StAt W m r s p k u t0 t1 t2 t3 t4 sc hh) (b : Below W.heap.size W W') : StAt W' m r s p k u t0 t1 t2 t3 t4 sc hh := (b.block m (Array.getElem?_eq_some_iff.1 h).1).trans h
theorem st_gp {w1 W : World} {m g : Nat} {r R : Nat → Int} {s p k u t0 t1 t2 t3 t4 sc hh pp kk uu : Int} {xs : List (Nat × Int)} (h : StAt w1 m r s p k u t0 t1 t2 t3 t4 sc hh) (hg : GP w1 W g R pp kk uu xs) : StAt W m r s p k u t0 t1 t2 t3 t4 sc hh := st_then h hg.below
theorem st_cells {W : World} {m : Nat} {r : Nat → Int} {s p k u t0 t1 t2 t3 t4 sc hh : Int} (h : StAt W m r s p k u t0 t1 t2 t3 t4 sc hh) : W.cell? ⟨m, 0, none⟩ = some (.int .u32 (r 0)) ∧ W.cell? ⟨m, 1, none⟩ = some (.int .u32 (r 1)) ∧ W.cell? ⟨m, 2, none⟩ = some (.int .u32 (r 2)) ∧ W.cell? ⟨m, 3, none⟩ = some (.int .u32 (r 3)) ∧ W.cell? ⟨m, 4, none⟩ = some (.int .u32 (r 4)) ∧ W.cell? ⟨m, 5, none⟩ = some (.int .u32 (r 5)) ∧ W.cell? ⟨m, 6, none⟩ = some (.int .u32 (r 6)) ∧ W.cell? ⟨m, 7, none⟩ = some (.int .u32 (r 7)) ∧ W.cell? ⟨m, 8, none⟩ = some (.int .u32 (r 8)) ∧ W.cell? ⟨m, 9, none⟩ = some (.int .u32 (r 9)) ∧ W.cell? ⟨m, 10, none⟩ = some (.int .u32 (r 10)) ∧ W.cell? ⟨m, 11, none⟩ = some (.int .u32 (r 11)) ∧ W.cell? ⟨m, 12, none⟩ = some (.int .u32 (r 12)) ∧ W.cell? ⟨m, 13, none⟩ = some (.int .u32 (r 13)) ∧ W.cell? ⟨m, 14, none⟩ = some (.int .u32 s) ∧ W.cell? ⟨m, 15, none⟩ = some (.int .u32 (r 15)) ∧ W.cell? ⟨m, 16, none⟩ = some (.int .u32 p) ∧ W.cell? ⟨m, 17, none⟩ = some (.int .u32 k) ∧ W.cell? ⟨m, 18, none⟩ = some (.int .u32 u) ∧ W.cell? ⟨m, 19, none⟩ = some (.int .u32 t0) ∧ W.cell? ⟨m, 20, none⟩ = some (.int .u32 t1) ∧ W.cell? ⟨m, 21, none⟩ = some (.int .u32 t2) ∧ W.cell? ⟨m, 22, none⟩ = some (.int .u32 t3) ∧ W.cell? ⟨m, 23, none⟩ = some (.int .u32 t4) ∧ W.cell? ⟨m, 24, none⟩ = some (.int .u32 sc) ∧ W.cell? ⟨m, 25, none⟩ = some (.int .i64 hh) :=
  ⟨cell_of_row W m 0 _ _ _ h, cell_of_row W m 1 _ _ _ h, cell_of_row W m 2 _ _ _ h, cell_of_row W m 3 _ _ _ h, cell_of_row W m 4 _ _ _ h, cell_of_row W m 5 _ _ _ h, cell_of_row W m 6 _ _ _ h, cell_of_row W m 7 _ _ _ h, cell_of_row W m 8 _ _ _ h, cell_of_row W m 9 _ _ _ h, cell_of_row W m 10 _ _ _ h, cell_of_row W m 11 _ _ _ h, cell_of_row W m 12 _ _ _ h, cell_of_row W m 13 _ _ _ h, cell_of_row W m 14 _ _ _ h, cell_of_row W m 15 _ _ _ h, cell_of_row W m 16 _ _ _ h, cell_of_row W m 17 _ _ _ h, cell_of_row W m 18 _ _ _ h, cell_of_row W m 19 _ _ _ h, cell_of_row W m 20 _ _ _ h, cell_of_row W m 21 _ _ _ h, cell_of_row W m 22 _ _ _ h, cell_of_row W m 23 _ _ _ h, cell_of_row W m 24 _ _ _ h, cell_of_row W m 25 _ _ _ h⟩
/-- A state is loaded whole. -/
def loadSt (v : Value) : Sem Value := Instr.loadAt 27 v
theorem loadSt_eq (v : Value) : Instr.loadAt 27 v = loadSt v := rfl
theorem load_st {W : World} {m : Nat} {r : Nat → Int} {s p k u t0 t1 t2 t3 t4 sc hh : Int} (h : StAt W m r s p k u t0 t1 t2 t3 t4 sc hh) : (loadSt (.pointer (some ⟨m, 0, none⟩))).run Try.prog W = .ok (.agg (stCells r s p k u t0 t1 t2 t3 t4 sc hh)) W := by
  have e := run_loadVar_row W m _ 27 _ _ _ h Try.underlying27 rfl infoS
  simp only [loadSt, Instr.loadAt, Instr.sureAddr, Sem.run_bind, Sem.run_pure, Result.andThen_ok, e]
attribute [local go_sem ↓] loadSt_eq
theorem gp_box {w1 W : World} {g : Nat} {R : Nat → Int} {p k u : Int} {xs : List (Nat × Int)} (h : GP w1 W g R p k u xs) (cs0 cs : Array Value) (ty : TypeId) :
    GP w1 ((W.alloc (.cells cs0 ty)).setRow W.heap.size cs) g R p k u xs ∧ ((W.alloc (.cells cs0 ty)).setRow W.heap.size cs).heap[W.heap.size]? = some (.cells cs ty (0, 0)) ∧ W.heap.size < ((W.alloc (.cells cs0 ty)).setRow W.heap.size cs).heap.size := by
  have b0 := below_alloc (Below.refl W.heap.size W) (.cells cs0 ty)
  refine ⟨h.then (b0.trans ⟨rfl, rfl, rfl, by simp [World.setRow], fun k hk => setRow_other _ W.heap.size k _ (by omega)⟩), setRow_heap _ W.heap.size _ _ ty _ (blk_new _ _), ?_⟩
  simp [World.setRow, World.alloc_eq]
theorem u32_rng {x : Int} (h : (Lit.int .u32 x).wf = true) : 0 ≤ x ∧ x < 4294967296 := by
  obtain ⟨n, rfl, hn⟩ := u32_nat h
  omega
theorem ite_rng {c : Prop} [Decidable c] {x y : Int} (h : 0 ≤ x ∧ x < 4294967296) (k : 0 ≤ y ∧ y < 4294967296) : 0 ≤ (if c then x else y) ∧ (if c then x else y) < 4294967296 := by
  split
  · exact h
  · exact k
theorem rng_vec {r0 r1 r2 r3 r4 r5 r6 r7 r8 r9 r10 r11 r12 r13 r14 r15 : Int} (h0 : 0 ≤ r0 ∧ r0 < 4294967296) (h1 : 0 ≤ r1 ∧ r1 < 4294967296) (h2 : 0 ≤ r2 ∧ r2 < 4294967296) (h3 : 0 ≤ r3 ∧ r3 < 4294967296) (h4 : 0 ≤ r4 ∧ r4 < 4294967296) (h5 : 0 ≤ r5 ∧ r5 < 4294967296) (h6 : 0 ≤ r6 ∧ r6 < 4294967296) (h7 : 0 ≤ r7 ∧ r7 < 4294967296) (h8 : 0 ≤ r8 ∧ r8 < 4294967296) (h9 : 0 ≤ r9 ∧ r9 < 4294967296) (h10 : 0 ≤ r10 ∧ r10 < 4294967296) (h11 : 0 ≤ r11 ∧ r11 < 4294967296) (h12 : 0 ≤ r12 ∧ r12 < 4294967296) (h13 : 0 ≤ r13 ∧ r13 < 4294967296) (h14 : 0 ≤ r14 ∧ r14 < 4294967296) (h15 : 0 ≤ r15 ∧ r15 < 4294967296) : Rng (vec r0 r1 r2 r3 r4 r5 r6 r7 r8 r9 r10 r11 r12 r13 r14 r15) := by
  intro i
  unfold vec
  exact ite_rng h0 (ite_rng h1 (ite_rng h2 (ite_rng h3 (ite_rng h4 (ite_rng h5 (ite_rng h6 (ite_rng h7 (ite_rng h8 (ite_rng h9 (ite_rng h10 (ite_rng h11 (ite_rng h12 (ite_rng h13 (ite_rng h14 (ite_rng h15 (⟨Int.le_refl _, by decide⟩))))))))))))))))
theorem forgets_long (v : Value) (A0 A1 : Option Addr) (n m c0 c1 : Nat) (d : Int) (w : World) (h : 60 < n ∨ 60 < m) :
    Calls Try.prog 3 #[v, .slice A0 n c0, .slice A1 m c1, .int .u32 d] w fun e w' => e = .returned (.bool true) ∧ Below w.heap.size w w' := by
  by_cases h1 : 60 < n
  · clear h
    go_enter Try.func3, Try.ntmps3
    go_wp2_with (first
      | (go_at_call 13; (with_reducible refine (ralive_call _).mono ?_); rintro e w0 ⟨rfl, hb0⟩; have B0 := Aside0.mk hb0; clear hb0))
    go_ret
    exact ⟨rfl, below_step (below_alloc (Below.refl _ _) _) B0.out⟩
  · have h2 : 60 < m := by omega
    clear h
    go_enter Try.func3, Try.ntmps3
    go_wp2_with (first
      | (go_at_call 13; (with_reducible refine (ralive_call _).mono ?_); rintro e w0 ⟨rfl, hb0⟩; have B0 := Aside0.mk hb0; clear hb0))
    go_ret
    exact ⟨rfl, below_step (below_alloc (Below.refl _ _) _) B0.out⟩
set_option maxRecDepth 100000 in
set_option maxHeartbeats 4000000 in
theorem forgets_ok (r0 r1 r2 r3 r4 r5 r6 r7 r8 r9 r10 r11 r12 r13 r14 r15 p k u t0 t1 t2 t3 t4 sc hh : Int) (A0 A1 : Option Addr) (c0 c1 : Nat) (a b : List Int) (d : Int) (w : World)
    (hn : a.length ≤ 60) (hm : b.length ≤ 60) (ha : ReadsInt w .i64 A0 a.length a) (hb : ReadsInt w .i64 A1 b.length b) (hr : Rng (vec r0 r1 r2 r3 r4 r5 r6 r7 r8 r9 r10 r11 r12 r13 r14 r15)) :
    Calls Try.prog 3 #[.agg (stCells (vec r0 r1 r2 r3 r4 r5 r6 r7 r8 r9 r10 r11 r12 r13 r14 r15) (vec r0 r1 r2 r3 r4 r5 r6 r7 r8 r9 r10 r11 r12 r13 r14 r15 14) p k u t0 t1 t2 t3 t4 sc hh), .slice A0 a.length c0, .slice A1 b.length c1, .int .u32 d] w fun e w' => e = .returned (.bool true) ∧ Below w.heap.size w w' := by
  generalize hR : vec r0 r1 r2 r3 r4 r5 r6 r7 r8 r9 r10 r11 r12 r13 r14 r15 = R at *
  have RR := Aside0.mk hr
  have RA := Aside0.mk ha
  have RB := Aside0.mk hb
  have hn' : (a.length : Int) ≤ 60 := by omega
  have hm' : (b.length : Int) ≤ 60 := by omega
  clear ha hb hr hR
  go_enter Try.func3, Try.ntmps3
  go_wp2_with (first
    | (go_at_call 13; (with_reducible refine (ralive_call _).mono ?_); rintro e w1 ⟨rfl, hb1⟩; have B1 := Aside0.mk (below_step (below_alloc (Below.refl w.heap.size w) _) hb1); have S1 := Aside0.mk (st_then (show StAt _ w.heap.size R (R 14) p k u t0 t1 t2 t3 t4 sc hh from blk_new _ _) hb1); clear hb1)
    | (go_at_call 14; (with_reducible refine (gnew _).mono ?_); rintro e w2 ⟨g, rfl, h⟩; have H2 := Aside0.mk h; have S2 := Aside0.mk (st_gp S1.out h); clear h)
    | (refine wpList_load_row rfl 27 (.tmp 4) rfl w.heap.size rfl _ _ _ _ S2.out Try.underlying27 rfl infoS ?_)
    | (go_at_call 15; go_loud (refine (gload w1 _ g _ R 0 0 0 p k u t0 t1 t2 t3 t4 sc hh _ H2.out).mono ?_); rintro e w3 ⟨rfl, h⟩; have H3 := Aside0.mk h.1; clear h))
  have S1' := S1
  go_loopw [31] (fun iv wr => ∃ j : Nat, j ≤ a.length ∧ iv = .int .i64 j ∧ Aside0 (GP w1 wr g (stepAll d R (a.take j)) p k u (entrs d (a.take j)))) (fun iv _ => a.length - (intOf iv).toNat)
  case atStart => exact ⟨0, Nat.zero_le _, rfl, H3⟩
  case round =>
    obtain ⟨j, hj, rfl, L⟩ := hrel
    by_cases hja : j = a.length
    · subst hja
      rw [List.take_length] at L
      have RQ := Aside0.mk (rng_all (d := d) a RR.out)
      have BB := Aside0.mk (back_all d b (stepAll d R a) RQ.out)
      have BL := Aside0.mk (entrs_length d b)
      generalize stepAll d R a = Q at *
      go_wp2_with (first
        | (go_at_call 17; (with_reducible refine (gforget _ _ _ _ _ _ _ _ L.out).mono ?_); rintro e w4 ⟨rfl, h⟩; have H4 := Aside0.mk h.1; have S4 := Aside0.mk (st_gp S1.out h.1); clear h)
        | (go_at_call 18; refine (gsave w1 _ g Q R p k u (R 14) p k u t0 t1 t2 t3 t4 sc hh _ H4.out).mono ?_; rintro e w5 ⟨rfl, h⟩; have H5 := Aside0.mk h.1; clear h)
        | (refine wpList_load_row rfl 27 (.tmp 4) rfl w.heap.size rfl _ _ _ _ S4.out Try.underlying27 rfl infoS ?_)
        | (refine wpList_store_row rfl 27 (.tmp 12) (.tmp 44) rfl w5.heap.size (stCells Q (Q 14) p k u t0 t1 t2 t3 t4 sc hh) rfl rfl _ _ (blk_new _ _) infoS rfl (by kernel_rfl) ?_))
      have BX := gp_box H5.out #[.int .u32 0, .int .u32 0, .int .u32 0, .int .u32 0, .int .u32 0, .int .u32 0, .int .u32 0, .int .u32 0, .int .u32 0, .int .u32 0, .int .u32 0, .int .u32 0, .int .u32 0, .int .u32 0, .int .u32 0, .int .u32 0, .int .u32 0, .int .u32 0, .int .u32 0, .int .u32 0, .int .u32 0, .int .u32 0, .int .u32 0, .int .u32 0, .int .u32 0, .int .i64 0] (stCells Q (Q 14) p k u t0 t1 t2 t3 t4 sc hh) 27
      generalize (w5.alloc (.cells #[.int .u32 0, .int .u32 0, .int .u32 0, .int .u32 0, .int .u32 0, .int .u32 0, .int .u32 0, .int .u32 0, .int .u32 0, .int .u32 0, .int .u32 0, .int .u32 0, .int .u32 0, .int .u32 0, .int .u32 0, .int .u32 0, .int .u32 0, .int .u32 0, .int .u32 0, .int .u32 0, .int .u32 0, .int .u32 0, .int .u32 0, .int .u32 0, .int .u32 0, .int .i64 0] 27)).setRow w5.heap.size (stCells Q (Q 14) p k u t0 t1 t2 t3 t4 sc hh) = w6 at *
      have L6 := Aside0.mk BX.1
      have D6 := Aside0.mk (show StAt w6 w5.heap.size Q (Q 14) p k u t0 t1 t2 t3 t4 sc hh from BX.2.1)
      clear BX
      go_loopw [47] (fun iv wq => ∃ i : Nat, i ≤ b.length ∧ iv = .int .i64 i ∧ Aside0 (GP w1 wq g (stepAll d Q (b.take i)) p k u (entrs d (b.take i))) ∧ Aside0 (StAt wq w5.heap.size Q (Q 14) p k u t0 t1 t2 t3 t4 sc hh)) (fun iv _ => b.length - (intOf iv).toNat)
      case atStart => exact ⟨0, Nat.zero_le _, rfl, L6, D6⟩
      case round =>
        obtain ⟨i, hi, rfl, M, D⟩ := hrel
        by_cases hib : i = b.length
        · subst hib
          rw [List.take_length] at M
          have BLL := Aside0.mk (show (entrs d b).length ≤ 4096 by have := BL.out; omega)
          go_wp2_with (first
            | (go_at_call 19; (with_reducible refine (gundo_i _ _ _ _ _ _ _ _ _ BB.out M.out (entrs_low d b) BLL.out).mono ?_); rintro e w7 ⟨rfl, h⟩; have H7 := Aside0.mk h.1; have S7 := Aside0.mk (st_gp S1.out h.1); have D7 := Aside0.mk (show StAt w7 w5.heap.size Q (Q 14) p k u t0 t1 t2 t3 t4 sc hh from h.2 _ _ _ D.out); clear h))
          have EQ := fun W => eqSt W Q (Q 14) p k u t0 t1 t2 t3 t4 sc hh
          have SV := Aside0.mk (fun W h => gsave w1 W g Q R p k u (R 14) p k u t0 t1 t2 t3 t4 sc hh [] h)
          have hS : Aside0 (∀ W, KeepSt w7 W → ((loadSt (.pointer (some ⟨w.heap.size, 0, none⟩))).run Try.prog W = .ok (.agg (stCells R (R 14) p k u t0 t1 t2 t3 t4 sc hh)) W ∧ (loadSt (.pointer (some ⟨w5.heap.size, 0, none⟩))).run Try.prog W = .ok (.agg (stCells Q (Q 14) p k u t0 t1 t2 t3 t4 sc hh)) W)) := ⟨fun W hW => ⟨load_st (hW _ _ _ S7.out), load_st (hW _ _ _ D7.out)⟩⟩
          have hS7 := hS.out w7 (KeepSt.of_below (Below.refl _ _))
          go_region_held3 (fun W => (loadSt (.pointer (some ⟨w.heap.size, 0, none⟩))).run Try.prog W = .ok (.agg (stCells R (R 14) p k u t0 t1 t2 t3 t4 sc hh)) W ∧ (loadSt (.pointer (some ⟨w5.heap.size, 0, none⟩))).run Try.prog W = .ok (.agg (stCells Q (Q 14) p k u t0 t1 t2 t3 t4 sc hh)) W)
            (first | exact hS.out _ (by assumption) | exact hS.out _ (KeepSt.of_below (Below.refl _ _).drew))
            (first
            | (go_at_call 18; refine (SV.out _ (GP.then H7.out (Below.refl _ _).drew)).mono ?_; rintro e w8 ⟨rfl, h⟩; have H8 := Aside0.mk h.1; have hk8 : KeepSt w7 w8 := KeepSt.trans (KeepSt.of_below (Below.refl _ _).drew) h.2; clear h)
            | (go_at_call 20; refine (gsteps_i w1 _ g Q p k u [] 0 rfl H8.out).mono ?_; rintro e w9 ⟨rfl, h⟩; have H9 := Aside0.mk h.1; have hk9 : KeepSt w7 w9 := KeepSt.trans hk8 h.2; clear h))
          go_wp2
          go_ret
          exact ⟨rfl, below_step B1.out H9.out.below⟩
        · have hi' : (i : Int) < b.length := by omega
          have hin : i < b.length := by omega
          obtain ⟨ad, rfl, hc⟩ := (RB.out.below (below_step B1.out M.out.below)).2.2 (by omega)
          have cx := hc i hin
          have NX := Aside0.mk (stepAll_next d Q b i hin)
          have NE := Aside0.mk (entrs_next d b i hin)
          have LL := Aside0.mk (show (entrs d (b.take i)).length < 4096 by have := entrs_length d (b.take i); rw [List.length_take] at this; omega)
          have HJ := Aside0.mk hin
          clear hc hin
          generalize b.getD i 0 = x at *
          go_wp2_with (first
            | (go_at_call 16; (with_reducible refine (gstep_any _ _ _ _ _ _ _ _ _ _ M.out LL.out).mono ?_); rintro e w7 ⟨⟨x0, rfl⟩, h⟩; have H7 := Aside0.mk h.1; have D7 := Aside0.mk (show StAt w7 w5.heap.size Q (Q 14) p k u t0 t1 t2 t3 t4 sc hh from h.2 _ _ _ D.out); clear h))
          go_roundw
          case rel => exact ⟨i + 1, HJ.out, by go_num, ⟨by rw [NX.out, NE.out]; exact H7.out⟩, D7⟩
          case measure => have := HJ.out; simp [intOf]; omega
    · have hj' : (j : Int) < a.length := by omega
      have hjn : j < a.length := by omega
      obtain ⟨ad, rfl, hc⟩ := (RA.out.below (below_step B1.out L.out.below)).2.2 (by omega)
      have cx := hc j hjn
      have NX := Aside0.mk (stepAll_next d R a j hjn)
      have NE := Aside0.mk (entrs_next d a j hjn)
      have LL := Aside0.mk (show (entrs d (a.take j)).length < 4096 by have := entrs_length d (a.take j); rw [List.length_take] at this; omega)
      have HJ := Aside0.mk hjn
      clear hc hjn
      generalize a.getD j 0 = x at *
      go_wp2_with (first
        | (go_at_call 16; (with_reducible refine (gstep_any _ _ _ _ _ _ _ _ _ _ L.out LL.out).mono ?_); rintro e w4 ⟨⟨x0, rfl⟩, h⟩; have H4 := Aside0.mk h.1; clear h))
      go_roundw
      case rel => exact ⟨j + 1, HJ.out, by go_num, ⟨by rw [NX.out, NE.out]; exact H4.out⟩⟩
      case measure => have := HJ.out; simp [intOf]; omega
theorem RegsForgets_walk (r0 r1 r2 r3 r4 r5 r6 r7 r8 r9 r10 r11 r12 r13 r14 r15 p k u t0 t1 t2 t3 t4 sc hh : Int) (a1 : Option Addr) (len1 cap1 : Nat) (z1 : List Int) (a2 : Option Addr) (len2 cap2 : Nat) (z2 : List Int) (d : Int) (w : World)
    (w0 : (Lit.int .u32 r0).wf = true) (w1 : (Lit.int .u32 r1).wf = true) (w2 : (Lit.int .u32 r2).wf = true) (w3 : (Lit.int .u32 r3).wf = true) (w4 : (Lit.int .u32 r4).wf = true) (w5 : (Lit.int .u32 r5).wf = true) (w6 : (Lit.int .u32 r6).wf = true) (w7 : (Lit.int .u32 r7).wf = true) (w8 : (Lit.int .u32 r8).wf = true) (w9 : (Lit.int .u32 r9).wf = true) (w10 : (Lit.int .u32 r10).wf = true) (w11 : (Lit.int .u32 r11).wf = true) (w12 : (Lit.int .u32 r12).wf = true) (w13 : (Lit.int .u32 r13).wf = true) (w14 : (Lit.int .u32 r14).wf = true) (w15 : (Lit.int .u32 r15).wf = true)
    (_ : (Lit.int .u32 p).wf = true) (_ : (Lit.int .u32 k).wf = true) (_ : (Lit.int .u32 u).wf = true) (_ : (Lit.int .u32 t0).wf = true) (_ : (Lit.int .u32 t1).wf = true) (_ : (Lit.int .u32 t2).wf = true) (_ : (Lit.int .u32 t3).wf = true) (_ : (Lit.int .u32 t4).wf = true) (_ : (Lit.int .u32 sc).wf = true) (_ : (Lit.int .i64 hh).wf = true)
    (x1 : IsRow .i64 w a1 len1 cap1 z1) (_ : len1 * 8 ≤ 140737488351232) (x2 : IsRow .i64 w a2 len2 cap2 z2) (_ : len2 * 8 ≤ 140737488351232) (_ : (Lit.int .u32 d).wf = true) :
    Calls Try.prog 3 #[.agg #[.int .u32 r0, .int .u32 r1, .int .u32 r2, .int .u32 r3, .int .u32 r4, .int .u32 r5, .int .u32 r6, .int .u32 r7, .int .u32 r8, .int .u32 r9, .int .u32 r10, .int .u32 r11, .int .u32 r12, .int .u32 r13, .int .u32 r14, .int .u32 r15, .int .u32 p, .int .u32 k, .int .u32 u, .int .u32 t0, .int .u32 t1, .int .u32 t2, .int .u32 t3, .int .u32 t4, .int .u32 sc, .int .i64 hh], .slice a1 len1 cap1, .slice a2 len2 cap2, .int .u32 d] w fun e w' => e = .returned (.bool true) ∧ Below w.heap.size w w' := by
  obtain ⟨l1, rfl, hr1, _, _, _⟩ := ReadsInt.ofRowC x1
  obtain ⟨l2, rfl, hr2, _, _, _⟩ := ReadsInt.ofRowC x2
  by_cases h : 60 < l1.length ∨ 60 < l2.length
  · exact forgets_long _ a1 a2 _ _ cap1 cap2 d w h
  · exact forgets_ok r0 r1 r2 r3 r4 r5 r6 r7 r8 r9 r10 r11 r12 r13 r14 r15 p k u t0 t1 t2 t3 t4 sc hh a1 a2 cap1 cap2 l1 l2 d w (by omega) (by omega) hr1 hr2 (rng_vec (u32_rng w0) (u32_rng w1) (u32_rng w2) (u32_rng w3) (u32_rng w4) (u32_rng w5) (u32_rng w6) (u32_rng w7) (u32_rng w8) (u32_rng w9) (u32_rng w10) (u32_rng w11) (u32_rng w12) (u32_rng w13) (u32_rng w14) (u32_rng w15))
end Go.Proofs.Ytbgcbnlpjjhmhaa.RegsWalk
