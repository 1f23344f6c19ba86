/- MmuRest, walked. -/
import Derived.Test.YtiogbgjeimdgmaaMmuT
import Derived.Test.YtiogbgjeimdgmaaWSized
namespace Go.Proofs.YtiogbgjeimdgmaaW.PrintWords
open Go.RowKit in
def IsRow (k : IntKind) (w : World) (a : Option Addr) (len cap : Nat) (zs : List Int) : Prop :=
  (a = none ∧ len = 0 ∧ cap = 0 ∧ zs = []) ∨
  ∃ x, a = some x ∧ len ≤ cap ∧ cap ≤ maxLen ∧ zs.length = cap ∧ (∀ i, i < zs.length → w.cell? (x.add i) = some (.int k (zs.getD i 0))) ∧ ∀ n ∈ zs, (Lit.int k n).wf = true
end Go.Proofs.YtiogbgjeimdgmaaW.PrintWords
namespace Go.Proofs.Ytiogbgjeimdgmaa.MmuWalk
open Go.RowKit Go.Proofs.Ytiogbgjeimdgmaa.Aid Go.Proofs.YtiogbgjeimdgmaaW.PrintWords Go.Proofs.YtiogbgjeimdgmaaW.PrintLast Go.Proofs.YtiogbgjeimdgmaaW.PrintMore
open Go.Proofs.Ytiogbgjeimdgmaa.RamWalk (RamAt Bytes leN new_nat put_i load_n zeros_bytes putL putL_bytes putL_length)
open Go.Proofs.Ytiogbgjeimdgmaa.TlbWalk (TlbAt Kept2 putP dropP posP posP_page entP nil2 own_some own_val own_then)
attribute [local go_sem] max2_int min2_int max_two min_two max_three min_three max_four min_four   -- for this text's walks alone
set_option linter.unusedVariables false
set_option linter.unusedSimpArgs false
theorem N2.below {w0 W : World} {L1 L2 : Loc} {T1 T2 : Tabs} {l : List Int} (h : N2 w0 W L1 L2 T1 T2 l) : Below w0.heap.size w0 W := by
  obtain ⟨_, _, m⟩ := h
  exact m.below
theorem rest_off (A : Option Addr) (n c : Nat) (T : Tabs) (A1 : Option Addr) (n1 c1 : Nat) (u : Bool) (w : World) (h : 8192 < n ∨ 60 < n1) :
    Calls Try.prog 5 #[.slice A n c, .agg #[.int .u32 T.p0b, .int .u32 T.p0l, .int .u32 T.sb, .int .u32 T.sl, .int .u32 T.men], .slice A1 n1 c1, .bool u] w fun e w' => e = .returned (.bool true) ∧ Below w.heap.size w w' := by
  by_cases h1 : 8192 < n
  · have h2 : (8192 : Int) < n := by omega
    clear h
    go_enter Try.func5, Try.ntmps5
    go_wp2_with (first
      | (go_at_call 28; (with_reducible refine (malive_call _).mono ?_); rintro e w0 ⟨rfl, hb0⟩; have B0 := Aside0.mk (below_step (below_alloc (Below.refl w.heap.size w) _) hb0); clear hb0))
    go_ret
    exact ⟨rfl, B0.out⟩
  · have h2 : ¬ (8192 : Int) < n := by omega
    have h3 : (60 : Int) < n1 := by omega
    clear h
    go_enter Try.func5, Try.ntmps5
    go_wp2_with (first
      | (go_at_call 28; (with_reducible refine (malive_call _).mono ?_); rintro e w0 ⟨rfl, hb0⟩; have B0 := Aside0.mk (below_step (below_alloc (Below.refl w.heap.size w) _) hb0); clear hb0))
    go_ret
    exact ⟨rfl, B0.out⟩
set_option maxRecDepth 100000 in
set_option maxHeartbeats 4000000 in
theorem rest_ok (A : Option Addr) (c : Nat) (l : List Int) (T : Tabs) (A1 : Option Addr) (c1 : Nat) (ys : List Int) (u : Bool) (w : World) (hn : l.length ≤ 8192) (hm : ys.length ≤ 60) (hl : ReadsInt w .u8 A l.length l) (hb : Bytes l) (hT : T.ok) (hy : ReadsInt w .u32 A1 ys.length ys) (hyb : ∀ x ∈ ys, R32 x) :
    Calls Try.prog 5 #[.slice A l.length c, .agg #[.int .u32 T.p0b, .int .u32 T.p0l, .int .u32 T.sb, .int .u32 T.sl, .int .u32 T.men], .slice A1 ys.length c1, .bool u] w fun e w' => e = .returned (.bool true) ∧ Below w.heap.size w w' := by
  have HL := Aside0.mk hl
  have HB := Aside0.mk hb
  have HT := Aside0.mk hT
  have HY := Aside0.mk hy
  have HYB := Aside0.mk hyb
  have NEW := Aside0.mk (fun w => new_nat l.length w (by omega))
  have h2 : ¬ (8192 : Int) < l.length := by omega
  have h3 : ¬ (60 : Int) < ys.length := by omega
  clear hl hb hT hy hyb
  go_enter Try.func5, Try.ntmps5
  go_wp2_with (first
    | (go_at_call 28; (with_reducible refine (malive_call _).mono ?_); rintro e w0 ⟨rfl, hb0⟩; have B0 := Aside0.mk (below_step (below_alloc (Below.refl w.heap.size w) _) hb0); have X0 := Aside0.mk (row_then (heap_alloc_new w _) hb0); clear hb0)
    | (go_at_call 14; (with_reducible refine (NEW.out _).mono ?_); rintro e w1 ⟨gr, b, rfl, hr, hbel⟩; have R1 := Aside0.mk hr; have B1 := Aside0.mk hbel; clear hr hbel)
    | (go_at_call 16; (with_reducible refine (load_n _ _ _ _ _ _ _ l _ _ R1.out (HL.out.below (below_step B0.out B1.out))).mono ?_); rintro e w2 ⟨rfl, hr, hg⟩; have Q2 := Aside0.mk hr; have B2 := Aside0.mk (ram_below1 B1.out R1.out hg); clear hr hg)
    | (go_at_call 18; (with_reducible refine (qnew w0 _ _ _ _ _ l rfl B2.out Q2.out HB.out).mono ?_); rintro e w3 ⟨L1, rfl, rfl, hm3⟩; have M3 := Aside0.mk hm3; clear hm3)
    | (go_at_call 18; (with_reducible refine (n2new w0 _ L1 l M3.out).mono ?_); rintro e w4 ⟨L2, rfl, hm4⟩; have M4 := Aside0.mk hm4; have t3 := cell_of_row _ _ 0 _ _ _ (row_then X0.out hm4.below); have t4 := cell_of_row _ _ 1 _ _ _ (row_then X0.out hm4.below); have t5 := cell_of_row _ _ 2 _ _ _ (row_then X0.out hm4.below); have t6 := cell_of_row _ _ 3 _ _ _ (row_then X0.out hm4.below); have t7 := cell_of_row _ _ 4 _ _ _ (row_then X0.out hm4.below); clear hm4)
    | (go_at_call 20; (with_reducible refine (n2set1 w0 _ L1 L2 _ _ T l M4.out HT.out).mono ?_); rintro e w5 ⟨rfl, hm5, _⟩; have M5 := Aside0.mk hm5.swap; clear t3 t4 t5 t6 t7; have t3 := cell_of_row _ _ 0 _ _ _ (row_then X0.out hm5.below); have t4 := cell_of_row _ _ 1 _ _ _ (row_then X0.out hm5.below); have t5 := cell_of_row _ _ 2 _ _ _ (row_then X0.out hm5.below); have t6 := cell_of_row _ _ 3 _ _ _ (row_then X0.out hm5.below); have t7 := cell_of_row _ _ 4 _ _ _ (row_then X0.out hm5.below); clear hm5)
    | (go_at_call 20; (with_reducible refine (n2set1 w0 _ L2 L1 _ _ T l M5.out HT.out).mono ?_); rintro e w6 ⟨rfl, hm6, _⟩; have R6 := Aside0.mk hm6.swap.r2; clear hm6))
  clear t3 t4 t5 t6 t7
  go_loopw [46] (fun iv wr => ∃ i : Nat, i ≤ ys.length ∧ iv = .int .i64 i ∧ Aside0 (R2 w0 wr L1 L2 T l)) (fun iv _ => ys.length - (intOf iv).toNat)
  case atStart => exact ⟨0, Nat.zero_le _, rfl, R6⟩
  case round =>
    obtain ⟨i, hi, rfl, R7⟩ := hrel
    clear R6
    by_cases hin : i = ys.length
    · subst hin
      go_wp2
      go_ret
      exact ⟨rfl, below_step B0.out R7.out.below⟩
    · have hi' : i < ys.length := by omega
      obtain ⟨ad, rfl, hc⟩ := HY.out.2.2 (by omega)
      have cy := ((below_step B0.out R7.out.below).cell (p := ad.add i) (World.block_lt_of_cell? w _ (hc i hi'))).trans (hc i hi')
      have hyr : R32 (ys.getD i 0) := by rw [List.getD_eq_getElem?_getD, List.getElem?_eq_getElem hi']; exact HYB.out _ (List.getElem_mem hi')
      have hr : Int.tmod (i : Int) 3 = ((i % 3 : Nat) : Int) := by rw [Int.tmod_eq_emod_of_nonneg (by omega)]; omega
      have HI := Aside0.mk hi'
      clear hc hi'
      have HYR := Aside0.mk hyr
      clear hyr
      obtain ⟨y, hyy⟩ : ∃ y, ys.getD i 0 = y := ⟨_, rfl⟩
      rw [hyy] at cy
      have HYR := Aside0.mk (hyy ▸ HYR.out)
      clear hyy
      by_cases h3 : i % 3 = 0
      · rw [h3] at hr
        clear h3
        go_wp2_with (first
          | (go_at_call 29; (with_reducible refine (rget1 w0 _ L1 L2 T l y u HYR.out R7.out).mono ?_); rintro e w2 ⟨x, fk, fv, fi, ht, rfl, r, _⟩; have TL := Aside0.mk ht; have R8 := Aside0.mk (r.then (below_alloc (Below.refl _ w2) (.cells #[.int .i64 fk, .int .u32 fv, .int .u32 fi] 47 (0, 0)))); have Y8 := Aside0.mk (heap_alloc_new w2 (.cells #[.int .i64 fk, .int .u32 fv, .int .u32 fi] 47 (0, 0))); clear ht r)
          | (go_at_call 29; (with_reducible refine (rget2 w0 _ L1 L2 T l y u HYR.out x fk fv fi TL.out R8.out).mono ?_); rintro e w3 ⟨rfl, r, st⟩; have R9 := Aside0.mk (r.then (below_alloc (Below.refl _ w3) (.cells #[.int .i64 fk, .int .u32 fv, .int .u32 fi] 47 (0, 0)))); have Y9 := Aside0.mk (st _ _ _ _ Y8.out (by unfold mTy; decide)); have y0 := fun o => cell_of_row (w3.alloc o) w2.heap.size 0 _ _ _ (row_then Y9.out (below_alloc (Below.refl _ _) o)); have y1 := fun o => cell_of_row (w3.alloc o) w2.heap.size 1 _ _ _ (row_then Y9.out (below_alloc (Below.refl _ _) o)); have y2 := fun o => cell_of_row (w3.alloc o) w2.heap.size 2 _ _ _ (row_then Y9.out (below_alloc (Below.refl _ _) o)); clear r st)
          | (go_at_call 30; (with_reducible refine (rclear w0 _ L1 L2 T l R9.out).mono ?_); rintro e w4 ⟨rfl, r⟩; have R10 := Aside0.mk r; clear r)
          | (go_at_call 31; (with_reducible refine (rdrop w0 _ L1 L2 T l y R10.out).mono ?_); rintro e w5 ⟨rfl, r⟩; have R11 := Aside0.mk r; clear r))
        go_roundw
        case rel => exact ⟨i + 1, HI.out, by go_num, R11⟩
        case measure => have := HI.out; simp [intOf]; omega
      · have hr3 : (((i % 3 : Nat) : Int) == 0) = false := beq_eq_false_iff_ne.mpr (by omega)
        obtain ⟨q, hq⟩ : ∃ q : Int, ((i % 3 : Nat) : Int) = q := ⟨_, rfl⟩
        rw [hq] at hr hr3
        clear hq h3
        go_wp2_with (first
          | (go_at_call 29; (with_reducible refine (rget1 w0 _ L1 L2 T l y u HYR.out R7.out).mono ?_); rintro e w2 ⟨x, fk, fv, fi, ht, rfl, r, _⟩; have TL := Aside0.mk ht; have R8 := Aside0.mk (r.then (below_alloc (Below.refl _ w2) (.cells #[.int .i64 fk, .int .u32 fv, .int .u32 fi] 47 (0, 0)))); have Y8 := Aside0.mk (heap_alloc_new w2 (.cells #[.int .i64 fk, .int .u32 fv, .int .u32 fi] 47 (0, 0))); clear ht r)
          | (go_at_call 29; (with_reducible refine (rget2 w0 _ L1 L2 T l y u HYR.out x fk fv fi TL.out R8.out).mono ?_); rintro e w3 ⟨rfl, r, st⟩; have R9 := Aside0.mk (r.then (below_alloc (Below.refl _ w3) (.cells #[.int .i64 fk, .int .u32 fv, .int .u32 fi] 47 (0, 0)))); have Y9 := Aside0.mk (st _ _ _ _ Y8.out (by unfold mTy; decide)); have y0 := fun o => cell_of_row (w3.alloc o) w2.heap.size 0 _ _ _ (row_then Y9.out (below_alloc (Below.refl _ _) o)); have y1 := fun o => cell_of_row (w3.alloc o) w2.heap.size 1 _ _ _ (row_then Y9.out (below_alloc (Below.refl _ _) o)); have y2 := fun o => cell_of_row (w3.alloc o) w2.heap.size 2 _ _ _ (row_then Y9.out (below_alloc (Below.refl _ _) o)); clear r st)
          | (go_at_call 31; (with_reducible refine (rdrop w0 _ L1 L2 T l y R9.out).mono ?_); rintro e w5 ⟨rfl, r⟩; have R11 := Aside0.mk r; clear r))
        go_roundw
        case rel => exact ⟨i + 1, HI.out, by go_num, R11⟩
        case measure => have := HI.out; simp [intOf]; omega
theorem MmuRest_walk (a0 : Option Addr) (len0 cap0 : Nat) (z0 : List Int) (t1 t2 t3 t4 t5 : Int) (a2 : Option Addr) (len2 cap2 : Nat) (z2 : List Int) (u : Bool) (w : World) (w0 : IsRow .u8 w a0 len0 cap0 z0) (_ : len0 * 1 ≤ 140737488351232)
    (h1 : (Lit.int .u32 t1).wf = true) (h2 : (Lit.int .u32 t2).wf = true) (h3 : (Lit.int .u32 t3).wf = true) (h4 : (Lit.int .u32 t4).wf = true) (h5 : (Lit.int .u32 t5).wf = true) (w2 : IsRow .u32 w a2 len2 cap2 z2) (_ : len2 * 4 ≤ 140737488351232) :
    Calls Try.prog 5 #[.slice a0 len0 cap0, .agg #[.int .u32 t1, .int .u32 t2, .int .u32 t3, .int .u32 t4, .int .u32 t5], .slice a2 len2 cap2, .bool u] w fun e w' => e = .returned (.bool true) ∧ Below w.heap.size w w' := by
  obtain ⟨l, rfl, hr, hm, hwf, hc⟩ := ReadsInt.ofRowC w0
  obtain ⟨ys, rfl, hr2, hm2, hwf2, hc2⟩ := ReadsInt.ofRowC w2
  have r : ∀ {x : Int}, (Lit.int .u32 x).wf = true → R32 x := fun {x} h => by
    obtain ⟨n, rfl, hn⟩ := u32_nat h
    unfold R32; omega
  by_cases h : 8192 < l.length ∨ 60 < ys.length
  · exact rest_off a0 _ cap0 ⟨t1, t2, t3, t4, t5⟩ a2 _ cap2 u w h
  · exact rest_ok a0 cap0 l ⟨t1, t2, t3, t4, t5⟩ a2 cap2 ys u w (by omega) (by omega) hr (fun x hx => by obtain ⟨j, rfl, hj⟩ := u8_nat (hwf x hx); omega) ⟨r h1, r h2, r h3, r h4, r h5⟩ hr2 (fun x hx => r (hwf2 x hx))
end Go.Proofs.Ytiogbgjeimdgmaa.MmuWalk
