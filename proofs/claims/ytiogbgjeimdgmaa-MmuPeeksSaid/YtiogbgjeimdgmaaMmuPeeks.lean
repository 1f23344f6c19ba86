/- MmuPeeks, walked. -/
import Derived.Test.YtiogbgjeimdgmaaMmuV
import Derived.Test.YtiogbgjeimdgmaaWSized
namespace Go.Proofs.YtiogbgjeimdgmaaW.PrintWords
open Go.RowKit in
def IsRow (k : IntKind) (w : World) (a : Option Addr) (len cap : Nat) (zs : List Int) : Prop :=
  (a = none ∧ len = 0 ∧ cap = 0 ∧ zs = []) ∨
  ∃ x, a = some x ∧ len ≤ cap ∧ cap ≤ maxLen ∧ zs.length = cap ∧ (∀ i, i < zs.length → w.cell? (x.add i) = some (.int k (zs.getD i 0))) ∧ ∀ n ∈ zs, (Lit.int k n).wf = true
end Go.Proofs.YtiogbgjeimdgmaaW.PrintWords
namespace Go.Proofs.Ytiogbgjeimdgmaa.MmuWalk
open Go.RowKit Go.Proofs.Ytiogbgjeimdgmaa.Aid Go.Proofs.YtiogbgjeimdgmaaW.PrintWords Go.Proofs.YtiogbgjeimdgmaaW.PrintLast Go.Proofs.YtiogbgjeimdgmaaW.PrintMore
open Go.Proofs.Ytiogbgjeimdgmaa.RamWalk (RamAt Bytes leN new_nat put_i load_n zeros_bytes putL putL_bytes putL_length own_cell)
open Go.Proofs.Ytiogbgjeimdgmaa.TlbWalk (TlbAt Kept2 putP dropP posP posP_page entP nil2 own_some own_val own_then)
attribute [local go_sem] max2_int min2_int max_two min_two max_three min_three max_four min_four   -- for this text's walks alone
set_option linter.unusedVariables false
set_option linter.unusedSimpArgs false
theorem head_cell {W : World} {B : Nat} {A : Option Addr} {k : Nat} {c : Int} (h : W.ownsRow B 5 1 (.slice A [c].length k) [c].length (nums .u8 [c])) : ∃ b, A = some ⟨b, 0, none⟩ ∧ ∀ o, (W.alloc o).cell? ⟨b, 0, none⟩ = some (.int .u8 c) := by
  obtain ⟨b, k8, hA⟩ := own_some (n := 0) h
  injection hA with hA1 hA2 hA3
  subst hA1
  exact ⟨b, rfl, fun o => own_cell (own_then h (below_alloc (Below.refl _ W) o)) (i := 0) (show 0 < [c].length from Nat.zero_lt_one)⟩
theorem peeks_off (A : Option Addr) (m c : Nat) (T : Tabs) (va : Int) (u : Bool) (n : Int) (w : World) (h : 8192 < m ∨ n < 0 ∨ 4 < n) :
    Calls Try.prog 6 #[.slice A m c, .agg #[.int .u32 T.p0b, .int .u32 T.p0l, .int .u32 T.sb, .int .u32 T.sl, .int .u32 T.men], .int .u32 va, .bool u, .int .i64 n] w fun e w' => e = .returned (.bool true) ∧ Below w.heap.size w w' := by
  by_cases h1 : 8192 < m
  · have h2 : (8192 : Int) < m := by omega
    clear h
    go_enter Try.func6, Try.ntmps6
    go_wp2_with (first
      | (go_at_call 28; (with_reducible refine (malive_call _).mono ?_); rintro e w0 ⟨rfl, hb0⟩; have B0 := Aside0.mk (below_step (below_alloc (Below.refl w.heap.size w) _) hb0); clear hb0))
    go_ret
    exact ⟨rfl, B0.out⟩
  · have h2 : ¬ (8192 : Int) < m := by omega
    by_cases h3 : n < 0
    · clear h
      go_enter Try.func6, Try.ntmps6
      go_wp2_with (first
        | (go_at_call 28; (with_reducible refine (malive_call _).mono ?_); rintro e w0 ⟨rfl, hb0⟩; have B0 := Aside0.mk (below_step (below_alloc (Below.refl w.heap.size w) _) hb0); clear hb0))
      go_ret
      exact ⟨rfl, B0.out⟩
    · have h4 : 4 < n := by omega
      clear h
      go_enter Try.func6, Try.ntmps6
      go_wp2_with (first
        | (go_at_call 28; (with_reducible refine (malive_call _).mono ?_); rintro e w0 ⟨rfl, hb0⟩; have B0 := Aside0.mk (below_step (below_alloc (Below.refl w.heap.size w) _) hb0); clear hb0))
      go_ret
      exact ⟨rfl, B0.out⟩
set_option maxRecDepth 100000 in
set_option maxHeartbeats 4000000 in
theorem peeks_fine (A : Option Addr) (k : Nat) (l : List Int) (T : Tabs) (va : Int) (u : Bool) (n : Int) (c fk fv fi : Int) (hk : True) (hpk : peekF T [] l va u = (c, 0, fv, fi)) (w : World) (hm : l.length ≤ 8192) (hn : 0 ≤ n) (hn4 : n ≤ 4) (hv : R32 va) (hl : ReadsInt w .u8 A l.length l) (hb : Bytes l) (hT : T.ok) :
    Calls Try.prog 6 #[.slice A l.length k, .agg #[.int .u32 T.p0b, .int .u32 T.p0l, .int .u32 T.sb, .int .u32 T.sl, .int .u32 T.men], .int .u32 va, .bool u, .int .i64 n] w fun e w' => e = .returned (.bool true) ∧ Below w.heap.size w w' := by
  have HL := Aside0.mk hl
  have HB := Aside0.mk hb
  have HT := Aside0.mk hT
  have HV := Aside0.mk hv
  have HPK := Aside0.mk hpk
  have HN := Aside0.mk (And.intro hn hn4)
  have NEW := Aside0.mk (fun w => new_nat l.length w (by omega))
  have h2 : ¬ (8192 : Int) < l.length := by omega
  have h3 : ¬ n < 0 := by omega
  have h4 : ¬ 4 < n := by omega
  clear hl hb hT hv hpk hn hn4
  go_enter Try.func6, Try.ntmps6
  go_wp2_with (first
    | (go_at_call 28; (with_reducible refine (malive_call _).mono ?_); rintro e w0 ⟨rfl, hb0⟩; have B0 := Aside0.mk (below_step (below_alloc (Below.refl w.heap.size w) _) hb0); have X0 := Aside0.mk (row_then (heap_alloc_new w _) hb0); clear hb0)
    | (go_at_call 14; (with_reducible refine (NEW.out _).mono ?_); rintro e w1 ⟨gr, b, rfl, hr, hbel⟩; have R1 := Aside0.mk hr; have B1 := Aside0.mk hbel; clear hr hbel)
    | (go_at_call 16; (with_reducible refine (load_n _ _ _ _ _ _ _ l _ _ R1.out (HL.out.below (below_step B0.out B1.out))).mono ?_); rintro e w2 ⟨rfl, hr, hg⟩; have Q2 := Aside0.mk hr; have B2 := Aside0.mk (ram_below1 B1.out R1.out hg); clear hr hg)
    | (go_at_call 18; (with_reducible refine (qnew w0 _ _ _ _ _ l rfl B2.out Q2.out HB.out).mono ?_); rintro e w3 ⟨L, rfl, rfl, hm3⟩; have M3 := Aside0.mk hm3; have t3 := cell_of_row _ _ 0 _ _ _ (row_then X0.out hm3.1); have t4 := cell_of_row _ _ 1 _ _ _ (row_then X0.out hm3.1); have t5 := cell_of_row _ _ 2 _ _ _ (row_then X0.out hm3.1); have t6 := cell_of_row _ _ 3 _ _ _ (row_then X0.out hm3.1); have t7 := cell_of_row _ _ 4 _ _ _ (row_then X0.out hm3.1); clear hm3)
    | (go_at_call 20; (with_reducible refine (qset w0 _ L _ T _ l M3.out HT.out).mono ?_); rintro e w4 ⟨rfl, hm4⟩; have M4 := Aside0.mk hm4; clear hm4 t3 t4 t5 t6 t7)
    | (go_at_call 32; (with_reducible refine (ppeek w0 _ L T l va u HV.out c 0 fv fi HPK.out M4.out).mono ?_); rintro e w5 ⟨rfl, m⟩; have M5 := Aside0.mk (m.then (below_alloc (Below.refl _ w5) (.cells #[.int .i64 0, .int .u32 fv, .int .u32 fi] 47 (0, 0)))); have Y5 := Aside0.mk (heap_alloc_new w5 (.cells #[.int .i64 0, .int .u32 fv, .int .u32 fi] 47 (0, 0))); clear m)
    | (go_at_call 33; (with_reducible refine (pbuf w0 _ L T l M5.out).mono ?_); rintro e w6 ⟨A6, c6, rfl, m, hb⟩; have M6 := Aside0.mk m; have Y6 := Aside0.mk (row_then Y5.out hb); clear m hb)
    | (go_at_call 34; (with_reducible refine (pload1 w0 _ L T l va u HV.out c 0 fv fi HPK.out M6.out).mono ?_); rintro e w7 ⟨A7, k7, bs, rfl, hbs, p, ho, st⟩; obtain rfl := hbs rfl; obtain ⟨b7, rfl, x0⟩ := head_cell ho; have Y7 := Aside0.mk (st _ _ _ _ Y6.out (by unfold mTy; decide)); have y0 := fun o => cell_of_row (w7.alloc o) w5.heap.size 0 _ _ _ (row_then Y7.out (below_alloc (Below.refl _ _) o)); have y1 := fun o => cell_of_row (w7.alloc o) w5.heap.size 1 _ _ _ (row_then Y7.out (below_alloc (Below.refl _ _) o)); have y2 := fun o => cell_of_row (w7.alloc o) w5.heap.size 2 _ _ _ (row_then Y7.out (below_alloc (Below.refl _ _) o)); have P7 := Aside0.mk (p.then (below_alloc (Below.refl _ w7) (.cells #[.int .i64 0, .int .u32 fv, .int .u32 fi] 47 (0, 0)))); clear hbs p ho st)
    | (go_at_call 29; (with_reducible refine (pget w0 _ L T l va n u HV.out HN.out.1 HN.out.2 P7.out).mono ?_); rintro e w8 ⟨x, gk, gv, gi, ht, rfl, p, st⟩; have TL := Aside0.mk ht; have P8 := Aside0.mk (p.then (below_alloc (Below.refl _ w8) (.cells #[.int .i64 gk, .int .u32 gv, .int .u32 gi] 47 (0, 0)))); have Y8 := Aside0.mk (heap_alloc_new w8 (.cells #[.int .i64 gk, .int .u32 gv, .int .u32 gi] 47 (0, 0))); clear ht p st)
    | (go_at_call 34; (with_reducible refine (pload w0 _ L T l va n u HV.out HN.out.1 HN.out.2 x gk gv gi TL.out P8.out).mono ?_); rintro e w9 ⟨A9, k9, cs, rfl, hx, hl4, hcb, p, ho, hlb, st⟩; have P9 := Aside0.mk (p.then (below_alloc (Below.refl _ w9) (.cells #[.int .i64 gk, .int .u32 gv, .int .u32 gi] 47 (0, 0)))); have Y9 := Aside0.mk (st _ _ _ _ Y8.out (by unfold mTy; decide)); have z0 := fun o => cell_of_row (w9.alloc o) w8.heap.size 0 _ _ _ (row_then Y9.out (below_alloc (Below.refl _ _) o)); have z1 := fun o => cell_of_row (w9.alloc o) w8.heap.size 1 _ _ _ (row_then Y9.out (below_alloc (Below.refl _ _) o)); have z2 := fun o => cell_of_row (w9.alloc o) w8.heap.size 2 _ _ _ (row_then Y9.out (below_alloc (Below.refl _ _) o)); have O9 := Aside0.mk (And.intro hlb (own_then ho (below_alloc (Below.refl _ w9) (.cells #[.int .i64 gk, .int .u32 gv, .int .u32 gi] 47 (0, 0))))); have HX := Aside0.mk (And.intro hx (And.intro hl4 hcb)); clear hx hl4 hcb p ho hlb st))
  have zz := cell_of_row _ _ 0 _ _ _ (heap_alloc_new w9 (.cells #[.int .i64 gk, .int .u32 gv, .int .u32 gi] 47 (0, 0)))
  have Z9 := Aside0.mk (heap_alloc_new w9 (.cells #[.int .i64 gk, .int .u32 gv, .int .u32 gi] 47 (0, 0)))
  have Y9a := Aside0.mk (row_then Y9.out (below_alloc (Below.refl _ w9) (.cells #[.int .i64 gk, .int .u32 gv, .int .u32 gi] 47 (0, 0))))
  generalize w9.alloc (.cells #[.int .i64 gk, .int .u32 gv, .int .u32 gi] 47 (0, 0)) = V at *
  clear z0 z1 z2 zz
  have hS : Aside0 (∀ W', Below V.heap.size V W' → W'.cell? ⟨w8.heap.size, 0, none⟩ = some (.int .i64 gk) ∧ W'.cell? ⟨w8.heap.size, 1, none⟩ = some (.int .u32 gv) ∧ W'.cell? ⟨w8.heap.size, 2, none⟩ = some (.int .u32 gi) ∧ W'.cell? ⟨w9.heap.size, 0, none⟩ = some (.int .i64 gk) ∧ W'.cell? ⟨w9.heap.size, 1, none⟩ = some (.int .u32 gv) ∧ W'.cell? ⟨w9.heap.size, 2, none⟩ = some (.int .u32 gi)) := ⟨fun W' hW' => ⟨cell_of_row _ _ 0 _ _ _ (row_then Y9a.out hW'), cell_of_row _ _ 1 _ _ _ (row_then Y9a.out hW'), cell_of_row _ _ 2 _ _ _ (row_then Y9a.out hW'), cell_of_row _ _ 0 _ _ _ (row_then Z9.out hW'), cell_of_row _ _ 1 _ _ _ (row_then Z9.out hW'), cell_of_row _ _ 2 _ _ _ (row_then Z9.out hW')⟩⟩
  have hS0 := hS.out V (Below.refl _ _)
  go_region_held3 (fun W' => W'.cell? ⟨w8.heap.size, 0, none⟩ = some (.int .i64 gk) ∧ W'.cell? ⟨w8.heap.size, 1, none⟩ = some (.int .u32 gv) ∧ W'.cell? ⟨w8.heap.size, 2, none⟩ = some (.int .u32 gi) ∧ W'.cell? ⟨w9.heap.size, 0, none⟩ = some (.int .i64 gk) ∧ W'.cell? ⟨w9.heap.size, 1, none⟩ = some (.int .u32 gv) ∧ W'.cell? ⟨w9.heap.size, 2, none⟩ = some (.int .u32 gi))
    (first | exact hS.out _ (by assumption) | exact hS.out _ ((Below.refl _ _).drew) | exact hS2.out _ (Below.refl _ _) | exact hS2.out _ ((Below.refl _ _).drew))
    (first
    | (go_at_call 35; (with_reducible refine (pprobe w0 _ L T l va n u HV.out HN.out.1 HN.out.2 x gk gv gi TL.out (P9.out.then ((Below.refl _ _).drew))).mono ?_); rintro e w10 ⟨rfl, p, st, rs⟩; have P10 := Aside0.mk p; have O10 := Aside0.mk (own_reads' (rs _ _ _ _ O9.out.1 (own_then O9.out.2 ((Below.refl _ _).drew)))); have Y10 := Aside0.mk (st _ _ _ _ (row_then Y9a.out ((Below.refl _ _).drew)) (by unfold mTy; decide)); have Z10 := Aside0.mk (st _ _ _ _ (row_then Z9.out ((Below.refl _ _).drew)) (by unfold mTy; decide)); have hS2 : Aside0 (∀ W', Below w10.heap.size w10 W' → W'.cell? ⟨w8.heap.size, 0, none⟩ = some (.int .i64 gk) ∧ W'.cell? ⟨w8.heap.size, 1, none⟩ = some (.int .u32 gv) ∧ W'.cell? ⟨w8.heap.size, 2, none⟩ = some (.int .u32 gi) ∧ W'.cell? ⟨w9.heap.size, 0, none⟩ = some (.int .i64 gk) ∧ W'.cell? ⟨w9.heap.size, 1, none⟩ = some (.int .u32 gv) ∧ W'.cell? ⟨w9.heap.size, 2, none⟩ = some (.int .u32 gi)) := ⟨fun W' hW' => ⟨cell_of_row _ _ 0 _ _ _ (row_then Y10.out hW'), cell_of_row _ _ 1 _ _ _ (row_then Y10.out hW'), cell_of_row _ _ 2 _ _ _ (row_then Y10.out hW'), cell_of_row _ _ 0 _ _ _ (row_then Z10.out hW'), cell_of_row _ _ 1 _ _ _ (row_then Z10.out hW'), cell_of_row _ _ 2 _ _ _ (row_then Z10.out hW')⟩⟩; clear p st rs)
    | (go_at_call 36; (with_reducible refine (number_call _ _ _ cs O10.out HX.out.2.2 HX.out.2.1).mono ?_); rintro e w11 ⟨rfl, rfl⟩; rw [HX.out.1]))
  all_goals go_wp2
  all_goals (
    go_ret
    exact ⟨rfl, below_step B0.out P10.out.below⟩)
set_option maxRecDepth 100000 in
set_option maxHeartbeats 4000000 in
theorem peeks_flt (A : Option Addr) (k : Nat) (l : List Int) (T : Tabs) (va : Int) (u : Bool) (n : Int) (c fk fv fi : Int) (hk : (fk == 0) = false) (hpk : peekF T [] l va u = (c, fk, fv, fi)) (w : World) (hm : l.length ≤ 8192) (hn : 0 ≤ n) (hn4 : n ≤ 4) (hv : R32 va) (hl : ReadsInt w .u8 A l.length l) (hb : Bytes l) (hT : T.ok) :
    Calls Try.prog 6 #[.slice A l.length k, .agg #[.int .u32 T.p0b, .int .u32 T.p0l, .int .u32 T.sb, .int .u32 T.sl, .int .u32 T.men], .int .u32 va, .bool u, .int .i64 n] w fun e w' => e = .returned (.bool true) ∧ Below w.heap.size w w' := by
  have HL := Aside0.mk hl
  have HB := Aside0.mk hb
  have HT := Aside0.mk hT
  have HV := Aside0.mk hv
  have HPK := Aside0.mk hpk
  have HN := Aside0.mk (And.intro hn hn4)
  have NEW := Aside0.mk (fun w => new_nat l.length w (by omega))
  have h2 : ¬ (8192 : Int) < l.length := by omega
  have h3 : ¬ n < 0 := by omega
  have h4 : ¬ 4 < n := by omega
  clear hl hb hT hv hpk hn hn4
  go_enter Try.func6, Try.ntmps6
  go_wp2_with (first
    | (go_at_call 28; (with_reducible refine (malive_call _).mono ?_); rintro e w0 ⟨rfl, hb0⟩; have B0 := Aside0.mk (below_step (below_alloc (Below.refl w.heap.size w) _) hb0); have X0 := Aside0.mk (row_then (heap_alloc_new w _) hb0); clear hb0)
    | (go_at_call 14; (with_reducible refine (NEW.out _).mono ?_); rintro e w1 ⟨gr, b, rfl, hr, hbel⟩; have R1 := Aside0.mk hr; have B1 := Aside0.mk hbel; clear hr hbel)
    | (go_at_call 16; (with_reducible refine (load_n _ _ _ _ _ _ _ l _ _ R1.out (HL.out.below (below_step B0.out B1.out))).mono ?_); rintro e w2 ⟨rfl, hr, hg⟩; have Q2 := Aside0.mk hr; have B2 := Aside0.mk (ram_below1 B1.out R1.out hg); clear hr hg)
    | (go_at_call 18; (with_reducible refine (qnew w0 _ _ _ _ _ l rfl B2.out Q2.out HB.out).mono ?_); rintro e w3 ⟨L, rfl, rfl, hm3⟩; have M3 := Aside0.mk hm3; have t3 := cell_of_row _ _ 0 _ _ _ (row_then X0.out hm3.1); have t4 := cell_of_row _ _ 1 _ _ _ (row_then X0.out hm3.1); have t5 := cell_of_row _ _ 2 _ _ _ (row_then X0.out hm3.1); have t6 := cell_of_row _ _ 3 _ _ _ (row_then X0.out hm3.1); have t7 := cell_of_row _ _ 4 _ _ _ (row_then X0.out hm3.1); clear hm3)
    | (go_at_call 20; (with_reducible refine (qset w0 _ L _ T _ l M3.out HT.out).mono ?_); rintro e w4 ⟨rfl, hm4⟩; have M4 := Aside0.mk hm4; clear hm4 t3 t4 t5 t6 t7)
    | (go_at_call 32; (with_reducible refine (ppeek w0 _ L T l va u HV.out c fk fv fi HPK.out M4.out).mono ?_); rintro e w5 ⟨rfl, m⟩; have M5 := Aside0.mk (m.then (below_alloc (Below.refl _ w5) (.cells #[.int .i64 fk, .int .u32 fv, .int .u32 fi] 47 (0, 0)))); have Y5 := Aside0.mk (heap_alloc_new w5 (.cells #[.int .i64 fk, .int .u32 fv, .int .u32 fi] 47 (0, 0))); clear m)
    | (go_at_call 33; (with_reducible refine (pbuf w0 _ L T l M5.out).mono ?_); rintro e w6 ⟨A6, c6, rfl, m, hb⟩; have M6 := Aside0.mk m; have Y6 := Aside0.mk (row_then Y5.out hb); clear m hb)
    | (go_at_call 34; (with_reducible refine (pload1 w0 _ L T l va u HV.out c fk fv fi HPK.out M6.out).mono ?_); rintro e w7 ⟨A7, k7, bs, rfl, hbs, p, ho, st⟩;  have Y7 := Aside0.mk (st _ _ _ _ Y6.out (by unfold mTy; decide)); have y0 := fun o => cell_of_row (w7.alloc o) w5.heap.size 0 _ _ _ (row_then Y7.out (below_alloc (Below.refl _ _) o)); have y1 := fun o => cell_of_row (w7.alloc o) w5.heap.size 1 _ _ _ (row_then Y7.out (below_alloc (Below.refl _ _) o)); have y2 := fun o => cell_of_row (w7.alloc o) w5.heap.size 2 _ _ _ (row_then Y7.out (below_alloc (Below.refl _ _) o)); have P7 := Aside0.mk (p.then (below_alloc (Below.refl _ w7) (.cells #[.int .i64 fk, .int .u32 fv, .int .u32 fi] 47 (0, 0)))); clear hbs p ho st)
    | (go_at_call 29; (with_reducible refine (pget w0 _ L T l va n u HV.out HN.out.1 HN.out.2 P7.out).mono ?_); rintro e w8 ⟨x, gk, gv, gi, ht, rfl, p, st⟩; have TL := Aside0.mk ht; have P8 := Aside0.mk (p.then (below_alloc (Below.refl _ w8) (.cells #[.int .i64 gk, .int .u32 gv, .int .u32 gi] 47 (0, 0)))); have Y8 := Aside0.mk (heap_alloc_new w8 (.cells #[.int .i64 gk, .int .u32 gv, .int .u32 gi] 47 (0, 0))); clear ht p st)
    | (go_at_call 34; (with_reducible refine (pload w0 _ L T l va n u HV.out HN.out.1 HN.out.2 x gk gv gi TL.out P8.out).mono ?_); rintro e w9 ⟨A9, k9, cs, rfl, hx, hl4, hcb, p, ho, hlb, st⟩; have P9 := Aside0.mk (p.then (below_alloc (Below.refl _ w9) (.cells #[.int .i64 gk, .int .u32 gv, .int .u32 gi] 47 (0, 0)))); have Y9 := Aside0.mk (st _ _ _ _ Y8.out (by unfold mTy; decide)); have z0 := fun o => cell_of_row (w9.alloc o) w8.heap.size 0 _ _ _ (row_then Y9.out (below_alloc (Below.refl _ _) o)); have z1 := fun o => cell_of_row (w9.alloc o) w8.heap.size 1 _ _ _ (row_then Y9.out (below_alloc (Below.refl _ _) o)); have z2 := fun o => cell_of_row (w9.alloc o) w8.heap.size 2 _ _ _ (row_then Y9.out (below_alloc (Below.refl _ _) o)); have O9 := Aside0.mk (And.intro hlb (own_then ho (below_alloc (Below.refl _ w9) (.cells #[.int .i64 gk, .int .u32 gv, .int .u32 gi] 47 (0, 0))))); have HX := Aside0.mk (And.intro hx (And.intro hl4 hcb)); clear hx hl4 hcb p ho hlb st))
  have zz := cell_of_row _ _ 0 _ _ _ (heap_alloc_new w9 (.cells #[.int .i64 gk, .int .u32 gv, .int .u32 gi] 47 (0, 0)))
  have Z9 := Aside0.mk (heap_alloc_new w9 (.cells #[.int .i64 gk, .int .u32 gv, .int .u32 gi] 47 (0, 0)))
  have Y9a := Aside0.mk (row_then Y9.out (below_alloc (Below.refl _ w9) (.cells #[.int .i64 gk, .int .u32 gv, .int .u32 gi] 47 (0, 0))))
  generalize w9.alloc (.cells #[.int .i64 gk, .int .u32 gv, .int .u32 gi] 47 (0, 0)) = V at *
  clear z0 z1 z2 zz
  have hS : Aside0 (∀ W', Below V.heap.size V W' → W'.cell? ⟨w8.heap.size, 0, none⟩ = some (.int .i64 gk) ∧ W'.cell? ⟨w8.heap.size, 1, none⟩ = some (.int .u32 gv) ∧ W'.cell? ⟨w8.heap.size, 2, none⟩ = some (.int .u32 gi) ∧ W'.cell? ⟨w9.heap.size, 0, none⟩ = some (.int .i64 gk) ∧ W'.cell? ⟨w9.heap.size, 1, none⟩ = some (.int .u32 gv) ∧ W'.cell? ⟨w9.heap.size, 2, none⟩ = some (.int .u32 gi)) := ⟨fun W' hW' => ⟨cell_of_row _ _ 0 _ _ _ (row_then Y9a.out hW'), cell_of_row _ _ 1 _ _ _ (row_then Y9a.out hW'), cell_of_row _ _ 2 _ _ _ (row_then Y9a.out hW'), cell_of_row _ _ 0 _ _ _ (row_then Z9.out hW'), cell_of_row _ _ 1 _ _ _ (row_then Z9.out hW'), cell_of_row _ _ 2 _ _ _ (row_then Z9.out hW')⟩⟩
  have hS0 := hS.out V (Below.refl _ _)
  go_region_held3 (fun W' => W'.cell? ⟨w8.heap.size, 0, none⟩ = some (.int .i64 gk) ∧ W'.cell? ⟨w8.heap.size, 1, none⟩ = some (.int .u32 gv) ∧ W'.cell? ⟨w8.heap.size, 2, none⟩ = some (.int .u32 gi) ∧ W'.cell? ⟨w9.heap.size, 0, none⟩ = some (.int .i64 gk) ∧ W'.cell? ⟨w9.heap.size, 1, none⟩ = some (.int .u32 gv) ∧ W'.cell? ⟨w9.heap.size, 2, none⟩ = some (.int .u32 gi))
    (first | exact hS.out _ (by assumption) | exact hS.out _ ((Below.refl _ _).drew) | exact hS2.out _ (Below.refl _ _) | exact hS2.out _ ((Below.refl _ _).drew))
    (first
    | (go_at_call 35; (with_reducible refine (pprobe w0 _ L T l va n u HV.out HN.out.1 HN.out.2 x gk gv gi TL.out (P9.out.then ((Below.refl _ _).drew))).mono ?_); rintro e w10 ⟨rfl, p, st, rs⟩; have P10 := Aside0.mk p; have O10 := Aside0.mk (own_reads' (rs _ _ _ _ O9.out.1 (own_then O9.out.2 ((Below.refl _ _).drew)))); have Y10 := Aside0.mk (st _ _ _ _ (row_then Y9a.out ((Below.refl _ _).drew)) (by unfold mTy; decide)); have Z10 := Aside0.mk (st _ _ _ _ (row_then Z9.out ((Below.refl _ _).drew)) (by unfold mTy; decide)); have hS2 : Aside0 (∀ W', Below w10.heap.size w10 W' → W'.cell? ⟨w8.heap.size, 0, none⟩ = some (.int .i64 gk) ∧ W'.cell? ⟨w8.heap.size, 1, none⟩ = some (.int .u32 gv) ∧ W'.cell? ⟨w8.heap.size, 2, none⟩ = some (.int .u32 gi) ∧ W'.cell? ⟨w9.heap.size, 0, none⟩ = some (.int .i64 gk) ∧ W'.cell? ⟨w9.heap.size, 1, none⟩ = some (.int .u32 gv) ∧ W'.cell? ⟨w9.heap.size, 2, none⟩ = some (.int .u32 gi)) := ⟨fun W' hW' => ⟨cell_of_row _ _ 0 _ _ _ (row_then Y10.out hW'), cell_of_row _ _ 1 _ _ _ (row_then Y10.out hW'), cell_of_row _ _ 2 _ _ _ (row_then Y10.out hW'), cell_of_row _ _ 0 _ _ _ (row_then Z10.out hW'), cell_of_row _ _ 1 _ _ _ (row_then Z10.out hW'), cell_of_row _ _ 2 _ _ _ (row_then Z10.out hW')⟩⟩; clear p st rs)
    | (go_at_call 36; (with_reducible refine (number_call _ _ _ cs O10.out HX.out.2.2 HX.out.2.1).mono ?_); rintro e w11 ⟨rfl, rfl⟩; rw [HX.out.1]))
  all_goals go_wp2
  all_goals (
    go_ret
    exact ⟨rfl, below_step B0.out P10.out.below⟩)
theorem MmuPeeks_walk (a0 : Option Addr) (len0 cap0 : Nat) (z0 : List Int) (t1 t2 t3 t4 t5 : Int) (va : Int) (u : Bool) (n : Int) (w : World) (w0 : IsRow .u8 w a0 len0 cap0 z0) (_ : len0 * 1 ≤ 140737488351232)
    (h1 : (Lit.int .u32 t1).wf = true) (h2 : (Lit.int .u32 t2).wf = true) (h3 : (Lit.int .u32 t3).wf = true) (h4 : (Lit.int .u32 t4).wf = true) (h5 : (Lit.int .u32 t5).wf = true) (h6 : (Lit.int .u32 va).wf = true) (_ : (Lit.int .i64 n).wf = true) :
    Calls Try.prog 6 #[.slice a0 len0 cap0, .agg #[.int .u32 t1, .int .u32 t2, .int .u32 t3, .int .u32 t4, .int .u32 t5], .int .u32 va, .bool u, .int .i64 n] w fun e w' => e = .returned (.bool true) ∧ Below w.heap.size w w' := by
  obtain ⟨l, rfl, hr, hm, hwf, hc⟩ := ReadsInt.ofRowC w0
  have r : ∀ {x : Int}, (Lit.int .u32 x).wf = true → R32 x := fun {x} h => by
    obtain ⟨n, rfl, hn⟩ := u32_nat h
    unfold R32; omega
  by_cases h : 8192 < l.length ∨ n < 0 ∨ 4 < n
  · exact peeks_off a0 _ cap0 ⟨t1, t2, t3, t4, t5⟩ va u n w h
  · obtain ⟨⟨c, fk, fv, fi⟩, hp⟩ : ∃ r, peekF ⟨t1, t2, t3, t4, t5⟩ [] l va u = r := ⟨_, rfl⟩
    have hb : Bytes l := fun x hx => by obtain ⟨j, rfl, hj⟩ := u8_nat (hwf x hx); omega
    by_cases hk : fk = 0
    · subst hk
      exact peeks_fine a0 cap0 l ⟨t1, t2, t3, t4, t5⟩ va u n c 0 fv fi trivial hp w (by omega) (by omega) (by omega) (r h6) hr hb ⟨r h1, r h2, r h3, r h4, r h5⟩
    · exact peeks_flt a0 cap0 l ⟨t1, t2, t3, t4, t5⟩ va u n c fk fv fi (beq_eq_false_iff_ne.mpr hk) hp w (by omega) (by omega) (by omega) (r h6) hr hb ⟨r h1, r h2, r h3, r h4, r h5⟩
end Go.Proofs.Ytiogbgjeimdgmaa.MmuWalk
