/- MmuAll, walked. -/
import Derived.Test.YtiogbgjeimdgmaaMmvC
import Derived.Test.YtiogbgjeimdgmaaWSized
namespace Go.Proofs.YtiogbgjeimdgmaaW.PrintWords
open Go.RowKit in
def IsRow (k : IntKind) (w : World) (a : Option Addr) (len cap : Nat) (zs : List Int) : Prop :=
  (a = none ∧ len = 0 ∧ cap = 0 ∧ zs = []) ∨
  ∃ x, a = some x ∧ len ≤ cap ∧ cap ≤ maxLen ∧ zs.length = cap ∧ (∀ i, i < zs.length → w.cell? (x.add i) = some (.int k (zs.getD i 0))) ∧ ∀ n ∈ zs, (Lit.int k n).wf = true
end Go.Proofs.YtiogbgjeimdgmaaW.PrintWords
namespace Go.Proofs.Ytiogbgjeimdgmaa.MmuWalk
open Go.RowKit Go.Proofs.Ytiogbgjeimdgmaa.Aid Go.Proofs.YtiogbgjeimdgmaaW.PrintWords Go.Proofs.YtiogbgjeimdgmaaW.PrintLast Go.Proofs.YtiogbgjeimdgmaaW.PrintMore
open Go.Proofs.Ytiogbgjeimdgmaa.RamWalk (RamAt Bytes leN new_nat put_i load_n zeros_bytes putL putL_bytes putL_length own_cell)
open Go.Proofs.Ytiogbgjeimdgmaa.TlbWalk (TlbAt Kept2 putP dropP posP posP_page entP nil2 own_some own_val own_then)
attribute [local go_sem] max2_int min2_int max_two min_two max_three min_three max_four min_four   -- for this text's walks alone
set_option linter.unusedVariables false
set_option linter.unusedSimpArgs false
theorem all_off (A : Option Addr) (n c : Nat) (T : Tabs) (va : Int) (A1 : Option Addr) (n1 c1 : Nat) (u : Bool) (w : World) (h : 8192 < n ∨ 1024 < n1) :
    Calls Try.prog 8 #[.slice A n c, .agg #[.int .u32 T.p0b, .int .u32 T.p0l, .int .u32 T.sb, .int .u32 T.sl, .int .u32 T.men], .int .u32 va, .slice A1 n1 c1, .bool u] w fun e w' => e = .returned (.bool true) ∧ Below w.heap.size w w' := by
  by_cases h1 : 8192 < n
  · have h2 : (8192 : Int) < n := by omega
    clear h
    go_enter Try.func8, Try.ntmps8
    go_wp2_with (first
      | (go_at_call 28; (with_reducible refine (malive_call _).mono ?_); rintro e w0 ⟨rfl, hb0⟩; have B0 := Aside0.mk (below_step (below_alloc (Below.refl w.heap.size w) _) hb0); have X0 := Aside0.mk (row_then (heap_alloc_new w _) hb0); clear hb0))
    go_ret
    exact ⟨rfl, B0.out⟩
  · have h2 : ¬ (8192 : Int) < n := by omega
    have h3 : (1024 : Int) < n1 := by omega
    clear h
    go_enter Try.func8, Try.ntmps8
    go_wp2_with (first
      | (go_at_call 28; (with_reducible refine (malive_call _).mono ?_); rintro e w0 ⟨rfl, hb0⟩; have B0 := Aside0.mk (below_step (below_alloc (Below.refl w.heap.size w) _) hb0); have X0 := Aside0.mk (row_then (heap_alloc_new w _) hb0); clear hb0))
    go_ret
    exact ⟨rfl, B0.out⟩
set_option maxRecDepth 100000 in
set_option maxHeartbeats 8000000 in
theorem all_flt (A : Option Addr) (c : Nat) (l : List Int) (T : Tabs) (va : Int) (A1 : Option Addr) (c1 : Nat) (bs : List Int) (u : Bool) (w : World) (hn : l.length ≤ 8192) (hm : bs.length ≤ 1024) (hv : R32 va) (hl : ReadsInt w .u8 A l.length l) (hb : Bytes l) (hT : T.ok) (hy : ReadsInt w .u8 A1 bs.length bs) (hyb : Bytes bs) (hc1 : bs.length ≤ c1)
    (xs : List Pc) (fk fv fi : Int) (hk : (fk == 0) = false) (ps1 ps2 : List (Int × Int)) (p1 : Pcs T l u true true [] va bs.length xs (fk, fv, fi) ps1) (p2 : Pcs T l u true true ps1 va bs.length xs (fk, fv, fi) ps2) :
    Calls Try.prog 8 #[.slice A l.length c, .agg #[.int .u32 T.p0b, .int .u32 T.p0l, .int .u32 T.sb, .int .u32 T.sl, .int .u32 T.men], .int .u32 va, .slice A1 bs.length c1, .bool u] w fun e w' => e = .returned (.bool true) ∧ Below w.heap.size w w' := by
  have HL := Aside0.mk hl
  have HB := Aside0.mk hb
  have HT := Aside0.mk hT
  have HV := Aside0.mk hv
  have HY := Aside0.mk hy
  have HYB := Aside0.mk hyb
  have HC := Aside0.mk hc1
  have P1 := Aside0.mk p1
  have P2 := Aside0.mk p2
  have HM := Aside0.mk hm
  have NEW := Aside0.mk (fun w => new_nat l.length w (by omega))
  obtain ⟨S, hS⟩ : ∃ S, S = strOfNums l := ⟨_, rfl⟩
  have ST := Aside0.mk (fun (w : World) (A : Option Addr) (c : Nat) (h : ReadsInt w .u8 A l.length l) => (by rw [hS]; exact string_of_reads (P := Try.prog) Try.underlying22 Try.underlying5 Try.underlying9 h : (convert 22 9 (.slice A l.length c)).run Try.prog w = .ok (.string S) w))
  have h2 : ¬ (8192 : Int) < l.length := by omega
  have h3 : ¬ (1024 : Int) < bs.length := by omega
  have SL : storeL T xs fk ps2 l bs = l := by unfold storeL; rw [if_neg (fun c => by subst c; cases hk)]
  have SP : storeP T xs fk ps2 l = ps2 := by unfold storeP; rw [if_neg (fun c => by subst c; cases hk)]
  have QS := Aside0.mk (fun w0 W L h (hy : ReadsInt w0 .u8 A1 bs.length bs) => qstore_is w0 W L T ps1 l va u A1 bs.length c1 bs rfl hv (by omega) hyb hc1 hy xs fk fv fi ps2 p2 h)
  rw [SL, SP] at QS
  clear SL SP
  clear hl hb hT hv hy hyb hc1 p1 p2 hS hm
  go_enter Try.func8, Try.ntmps8
  go_wp2_with (first
    | (go_at_call 28; (with_reducible refine (malive_call _).mono ?_); rintro e w0 ⟨rfl, hb0⟩; have B0 := Aside0.mk (below_step (below_alloc (Below.refl w.heap.size w) _) hb0); have X0 := Aside0.mk (row_then (heap_alloc_new w _) hb0); clear hb0)
    | (go_at_call 14; (with_reducible refine (NEW.out _).mono ?_); rintro e w1 ⟨gr, b, rfl, hr, hbel⟩; have R1 := Aside0.mk hr; have B1 := Aside0.mk hbel; clear hr hbel)
    | (go_at_call 16; (with_reducible refine (load_n _ _ _ _ _ _ _ l _ _ R1.out (HL.out.below (below_step B0.out B1.out))).mono ?_); rintro e w2 ⟨rfl, hr, hg⟩; have Q2 := Aside0.mk hr; have B2 := Aside0.mk (ram_below1 B1.out R1.out hg); clear hr hg)
    | (go_at_call 18; (with_reducible refine (qnew w0 _ _ _ _ _ l rfl B2.out Q2.out HB.out).mono ?_); rintro e w3 ⟨L, rfl, rfl, hm3⟩; have M3 := Aside0.mk hm3; have t3 := cell_of_row _ _ 0 _ _ _ (row_then X0.out hm3.1); have t4 := cell_of_row _ _ 1 _ _ _ (row_then X0.out hm3.1); have t5 := cell_of_row _ _ 2 _ _ _ (row_then X0.out hm3.1); have t6 := cell_of_row _ _ 3 _ _ _ (row_then X0.out hm3.1); have t7 := cell_of_row _ _ 4 _ _ _ (row_then X0.out hm3.1); clear hm3)
    | (go_at_call 20; (with_reducible refine (qset w0 _ L _ T _ l M3.out HT.out).mono ?_); rintro e w4 ⟨rfl, hm4⟩; have M4 := Aside0.mk hm4; clear hm4 t3 t4 t5 t6 t7)
    | (go_at_call 35; (with_reducible refine (qprobe_is w0 _ L T _ l va _ u true HV.out (by have := HM.out; omega) (by omega) xs fk fv fi ps1 P1.out M4.out).mono ?_); rintro e w5 ⟨rfl, m, _, _⟩; have M5 := Aside0.mk (m.then (below_alloc (Below.refl _ w5) (.cells #[.int .i64 fk, .int .u32 fv, .int .u32 fi] 47 (0, 0)))); have Y5 := Aside0.mk (heap_alloc_new w5 (.cells #[.int .i64 fk, .int .u32 fv, .int .u32 fi] 47 (0, 0))); clear m)
    | (go_at_call 37; (with_reducible refine (qbytes w0 _ L T ps1 l _ rfl M5.out).mono ?_); rintro e w6 ⟨b6, c6, rfl, ho, m, hb, hlb⟩; have M6 := Aside0.mk m; have Y6 := Aside0.mk (row_then Y5.out hb); have O6 := Aside0.mk ho; have HLB := Aside0.mk hlb; clear m hb ho hlb)
    | (go_at_call 38; (with_reducible refine (QS.out w0 _ L M6.out (HY.out.below B0.out)).mono ?_); rintro e w7 ⟨rfl, m, st, rs⟩; have M7 := Aside0.mk (m.then (below_alloc (Below.refl _ w7) (.cells #[.int .i64 fk, .int .u32 fv, .int .u32 fi] 47 (0, 0)))); have Y7 := Aside0.mk (row_then (st _ _ _ _ Y6.out (by unfold mTy; decide)) (below_alloc (Below.refl _ w7) (.cells #[.int .i64 fk, .int .u32 fv, .int .u32 fi] 47 (0, 0)))); have Z7 := Aside0.mk (heap_alloc_new w7 (.cells #[.int .i64 fk, .int .u32 fv, .int .u32 fi] 47 (0, 0))); have O7 := Aside0.mk (own_then (rs _ _ _ _ HLB.out O6.out) (below_alloc (Below.refl _ w7) (.cells #[.int .i64 fk, .int .u32 fv, .int .u32 fi] 47 (0, 0)))); clear m st rs)
    | (go_at_call 37; (with_reducible refine (qbytes w0 _ L T ps2 l _ rfl M7.out).mono ?_); rintro e w8 ⟨b8, c8, rfl, ho, m, hb, hlb⟩; have M8 := Aside0.mk m; have O8 := Aside0.mk ho; have y0 := cell_of_row _ _ 0 _ _ _ (row_then Y7.out hb); have y1 := cell_of_row _ _ 1 _ _ _ (row_then Y7.out hb); have y2 := cell_of_row _ _ 2 _ _ _ (row_then Y7.out hb); have z0 := cell_of_row _ _ 0 _ _ _ (row_then Z7.out hb); have z1 := cell_of_row _ _ 1 _ _ _ (row_then Z7.out hb); have z2 := cell_of_row _ _ 2 _ _ _ (row_then Z7.out hb); have s1 := ST.out w8 _ c6 (own_reads' (own_then O7.out hb)); have s2 := ST.out w8 _ c (HL.out.below (below_step B0.out m.1)); have s3 := ST.out w8 _ c8 (own_reads' ho); clear m hb ho hlb))
  go_ret
  exact ⟨rfl, below_step B0.out M8.out.1⟩
set_option maxRecDepth 100000 in
set_option maxHeartbeats 8000000 in
theorem all_fine (A : Option Addr) (c : Nat) (l : List Int) (T : Tabs) (va : Int) (A1 : Option Addr) (c1 : Nat) (bs : List Int) (u : Bool) (w : World) (hn : l.length ≤ 8192) (hm : bs.length ≤ 1024) (hv : R32 va) (hl : ReadsInt w .u8 A l.length l) (hb : Bytes l) (hT : T.ok) (hy : ReadsInt w .u8 A1 bs.length bs) (hyb : Bytes bs) (hc1 : bs.length ≤ c1)
    (xs : List Pc) (ps1 ps2 : List (Int × Int)) (p1 : Pcs T l u true true [] va bs.length xs (0, 0, 0) ps1) (p2 : Pcs T l u true true ps1 va bs.length xs (0, 0, 0) ps2) :
    Calls Try.prog 8 #[.slice A l.length c, .agg #[.int .u32 T.p0b, .int .u32 T.p0l, .int .u32 T.sb, .int .u32 T.sl, .int .u32 T.men], .int .u32 va, .slice A1 bs.length c1, .bool u] w fun e w' => e = .returned (.bool true) ∧ Below w.heap.size w w' := by
  have HL := Aside0.mk hl
  have HB := Aside0.mk hb
  have HT := Aside0.mk hT
  have HV := Aside0.mk hv
  have HY := Aside0.mk hy
  have HYB := Aside0.mk hyb
  have HC := Aside0.mk hc1
  have P1 := Aside0.mk p1
  have P2 := Aside0.mk p2
  have HM := Aside0.mk hm
  have NEW := Aside0.mk (fun w => new_nat l.length w (by omega))
  obtain ⟨S, hS⟩ : ∃ S, S = strOfNums l := ⟨_, rfl⟩
  have ST := Aside0.mk (fun (w : World) (A : Option Addr) (c : Nat) (h : ReadsInt w .u8 A l.length l) => (by rw [hS]; exact string_of_reads (P := Try.prog) Try.underlying22 Try.underlying5 Try.underlying9 h : (convert 22 9 (.slice A l.length c)).run Try.prog w = .ok (.string S) w))
  have h2 : ¬ (8192 : Int) < l.length := by omega
  have h3 : ¬ (1024 : Int) < bs.length := by omega
  obtain ⟨l3, hl3⟩ : ∃ l3, (lays xs (marks T xs ps2 l).2 bs).1 = l3 := ⟨_, rfl⟩
  obtain ⟨ps3, hps3⟩ : ∃ ps3, (marks T xs ps2 l).1 = ps3 := ⟨_, rfl⟩
  have D3 := Aside0.mk (hl3 ▸ store_dif p2 hv l.length)
  have e3 : l3.length = l.length := by
    rw [← hl3, (lays_length xs _ bs (by rw [marks_length]; exact p2.fitN hv) (by have := p2.total rfl; omega)).1, marks_length]
  have E3 := Aside0.mk e3
  have B3 := Aside0.mk (hl3 ▸ lays_bytes xs (marks_bytes (T := T) xs (ps := ps2) hb) hyb)
  have SL : storeL T xs 0 ps2 l bs = l3 := by unfold storeL; rw [if_pos rfl, hl3]
  have SP : storeP T xs 0 ps2 l = ps3 := by unfold storeP; rw [if_pos rfl, hps3]
  have QS := Aside0.mk (fun w0 W L h (hy : ReadsInt w0 .u8 A1 bs.length bs) => SP ▸ SL ▸ qstore_is w0 W L T ps1 l va u A1 bs.length c1 bs rfl hv (by omega) hyb hc1 hy xs 0 0 0 ps2 p2 h)
  clear hl3 hps3 e3 SL SP
  clear hl hb hT hv hy hyb hc1 p1 p2 hS hm
  go_enter Try.func8, Try.ntmps8
  go_wp2_with (first
    | (go_at_call 28; (with_reducible refine (malive_call _).mono ?_); rintro e w0 ⟨rfl, hb0⟩; have B0 := Aside0.mk (below_step (below_alloc (Below.refl w.heap.size w) _) hb0); have X0 := Aside0.mk (row_then (heap_alloc_new w _) hb0); clear hb0)
    | (go_at_call 14; (with_reducible refine (NEW.out _).mono ?_); rintro e w1 ⟨gr, b, rfl, hr, hbel⟩; have R1 := Aside0.mk hr; have B1 := Aside0.mk hbel; clear hr hbel)
    | (go_at_call 16; (with_reducible refine (load_n _ _ _ _ _ _ _ l _ _ R1.out (HL.out.below (below_step B0.out B1.out))).mono ?_); rintro e w2 ⟨rfl, hr, hg⟩; have Q2 := Aside0.mk hr; have B2 := Aside0.mk (ram_below1 B1.out R1.out hg); clear hr hg)
    | (go_at_call 18; (with_reducible refine (qnew w0 _ _ _ _ _ l rfl B2.out Q2.out HB.out).mono ?_); rintro e w3 ⟨L, rfl, rfl, hm3⟩; have M3 := Aside0.mk hm3; have t3 := cell_of_row _ _ 0 _ _ _ (row_then X0.out hm3.1); have t4 := cell_of_row _ _ 1 _ _ _ (row_then X0.out hm3.1); have t5 := cell_of_row _ _ 2 _ _ _ (row_then X0.out hm3.1); have t6 := cell_of_row _ _ 3 _ _ _ (row_then X0.out hm3.1); have t7 := cell_of_row _ _ 4 _ _ _ (row_then X0.out hm3.1); clear hm3)
    | (go_at_call 20; (with_reducible refine (qset w0 _ L _ T _ l M3.out HT.out).mono ?_); rintro e w4 ⟨rfl, hm4⟩; have M4 := Aside0.mk hm4; clear hm4 t3 t4 t5 t6 t7)
    | (go_at_call 35; (with_reducible refine (qprobe_is w0 _ L T _ l va _ u true HV.out (by have := HM.out; omega) (by omega) xs 0 0 0 ps1 P1.out M4.out).mono ?_); rintro e w5 ⟨rfl, m, _, _⟩; have M5 := Aside0.mk (m.then (below_alloc (Below.refl _ w5) (.cells #[.int .i64 0, .int .u32 0, .int .u32 0] 47 (0, 0)))); have Y5 := Aside0.mk (heap_alloc_new w5 (.cells #[.int .i64 0, .int .u32 0, .int .u32 0] 47 (0, 0))); clear m)
    | (go_at_call 37; (with_reducible refine (qbytes w0 _ L T ps1 l _ rfl M5.out).mono ?_); rintro e w6 ⟨b6, c6, rfl, ho, m, hb, hlb⟩; have M6 := Aside0.mk m; have Y6 := Aside0.mk (row_then Y5.out hb); have O6 := Aside0.mk ho; have HLB := Aside0.mk hlb; clear m hb ho hlb)
    | (go_at_call 38; (with_reducible refine (QS.out w0 _ L M6.out (HY.out.below B0.out)).mono ?_); rintro e w7 ⟨rfl, m, st, rs⟩; have M7 := Aside0.mk (m.then (below_alloc (Below.refl _ w7) (.cells #[.int .i64 0, .int .u32 0, .int .u32 0] 47 (0, 0)))); have Y7 := Aside0.mk (row_then (st _ _ _ _ Y6.out (by unfold mTy; decide)) (below_alloc (Below.refl _ w7) (.cells #[.int .i64 0, .int .u32 0, .int .u32 0] 47 (0, 0)))); have Z7 := Aside0.mk (heap_alloc_new w7 (.cells #[.int .i64 0, .int .u32 0, .int .u32 0] 47 (0, 0))); have O7 := Aside0.mk (own_then (rs _ _ _ _ HLB.out O6.out) (below_alloc (Below.refl _ w7) (.cells #[.int .i64 0, .int .u32 0, .int .u32 0] 47 (0, 0)))); clear m st rs)
    | (go_at_call 37; (with_reducible refine (qbytes w0 _ L T ps3 l3 _ E3.out M7.out).mono ?_); rintro e w8 ⟨b8, c8, rfl, ho, m, hb, hlb⟩; have M8 := Aside0.mk m; have O8 := Aside0.mk ho; have y0 := cell_of_row _ _ 0 _ _ _ (row_then Y7.out hb); have y1 := cell_of_row _ _ 1 _ _ _ (row_then Y7.out hb); have y2 := cell_of_row _ _ 2 _ _ _ (row_then Y7.out hb); have z0 := cell_of_row _ _ 0 _ _ _ (row_then Z7.out hb); have z1 := cell_of_row _ _ 1 _ _ _ (row_then Z7.out hb); have z2 := cell_of_row _ _ 2 _ _ _ (row_then Z7.out hb); have s1 := ST.out w8 _ c6 (own_reads' (own_then O7.out hb)); have s2 := ST.out w8 _ c (HL.out.below (below_step B0.out m.1)); clear m hb ho hlb))
  go_loopw [19, 91] (fun s i wr => ∃ j : Nat, j ≤ l.length ∧ i = .int .i64 j ∧ s = .int .i64 (difN l3 l j : Nat) ∧ Aside0 (Below w8.heap.size w8 wr)) (fun _ i _ => l.length - (intOf i).toNat)
  case atStart => exact ⟨0, Nat.zero_le _, rfl, rfl, ⟨Below.refl _ _⟩⟩
  case round =>
    obtain ⟨j, hj, rfl, rfl, BJ⟩ := hrel
    by_cases hjl : j = l.length
    · subst hjl
      have q1 : Int.tdiv (bs.length : Int) 512 = ((bs.length / 512 : Nat) : Int) := by rw [Int.tdiv_eq_ediv_of_nonneg (by omega)]; omega
      have q2 := D3.out
      have q3 : bs.length / 512 ≤ 2 := by have := HM.out; omega
      have q4 := HM.out
      generalize bs.length / 512 = q at *
      generalize difN l3 l l.length = d at *
      have q5 : (d : Int) ≤ bs.length + 4 * ((q : Int) + 2) := by omega
      have q6 : wrap64 (4 * ((q : Int) + 2)) = 4 * ((q : Int) + 2) := wrap64_in (by omega) (by omega)
      have q7 : wrap64 ((bs.length : Int) + 4 * ((q : Int) + 2)) = (bs.length : Int) + 4 * ((q : Int) + 2) := wrap64_in (by omega) (by omega)
      have q8 : wrap64 (q : Int) = q := wrap64_in (by omega) (by omega)
      have q9 : wrap64 ((q : Int) + 2) = q + 2 := wrap64_in (by omega) (by omega)
      have Q5 := Aside0.mk (And.intro q5 (And.intro q6 (And.intro q7 (And.intro q8 q9))))
      clear q2 q3 q4 q5 q6 q7 q8 q9 s1 s2
      go_wp2
      go_ret
      refine ⟨?_, below_step B0.out (below_step M8.out.1 BJ.out)⟩
      obtain ⟨q5, q6, q7, q8, q9⟩ := Q5.out
      show Ending.returned (.bool (decide ((d : Int) ≤ wrap64 ((bs.length : Int) + wrap64 (4 * wrap64 (wrap64 (q : Int) + 2)))))) = _
      rw [q8, q9, q6, q7, decide_eq_true q5]
    · have hj' : j < l.length := by omega
      obtain ⟨ad, rfl, hc⟩ := HL.out.2.2 (by omega)
      have cj := ((below_step B0.out (below_step M8.out.1 BJ.out)).cell (p := ad.add j) (World.block_lt_of_cell? w _ (hc j hj'))).trans (hc j hj')
      have dj := own_cell (own_then O8.out BJ.out) hj'
      have hdb := difN_bound l3 l j
      have HD := Aside0.mk (show difN l3 l (j + 1) = difN l3 l j + if l3.getD j 0 = l.getD j 0 then 0 else 1 from rfl)
      have HJ := Aside0.mk hj'
      clear hc s1 s2
      by_cases hx : l3.getD j 0 = l.getD j 0
      · have HD2 := Aside0.mk (show difN l3 l (j + 1) = difN l3 l j by have := HD.out; rw [if_pos hx] at this; exact this)
        rw [hx] at dj
        generalize difN l3 l j = d at *
        generalize l.getD j 0 = x at *
        clear hx
        go_wp2
        go_region
        all_goals go_wp2
        all_goals go_roundw
        case rel => exact ⟨j + 1, HJ.out, by go_num, by rw [HD2.out], ⟨below_drew BJ.out⟩⟩
        case measure => have := HJ.out; simp [intOf]; omega
      · have HD2 := Aside0.mk (show difN l3 l (j + 1) = difN l3 l j + 1 by have := HD.out; rw [if_neg hx] at this; exact this)
        generalize difN l3 l j = d at *
        generalize l.getD j 0 = x at *
        generalize l3.getD j 0 = y at *
        have hxy : (y == x) = false := beq_eq_false_iff_ne.mpr hx
        clear hx
        go_wp2
        go_region
        all_goals go_wp2
        all_goals go_roundw
        case rel => exact ⟨j + 1, HJ.out, by go_num, by rw [HD2.out]; go_num, ⟨below_drew BJ.out⟩⟩
        case measure => have := HJ.out; simp [intOf]; omega
theorem MmuAll_walk (a0 : Option Addr) (len0 cap0 : Nat) (z0 : List Int) (t1 t2 t3 t4 t5 va : Int) (a3 : Option Addr) (len3 cap3 : Nat) (z3 : List Int) (u : Bool) (w : World) (w0 : IsRow .u8 w a0 len0 cap0 z0) (_ : len0 * 1 ≤ 140737488351232)
    (h1 : (Lit.int .u32 t1).wf = true) (h2 : (Lit.int .u32 t2).wf = true) (h3 : (Lit.int .u32 t3).wf = true) (h4 : (Lit.int .u32 t4).wf = true) (h5 : (Lit.int .u32 t5).wf = true) (hv : (Lit.int .u32 va).wf = true) (w3 : IsRow .u8 w a3 len3 cap3 z3) (_ : len3 * 1 ≤ 140737488351232) :
    Calls Try.prog 8 #[.slice a0 len0 cap0, .agg #[.int .u32 t1, .int .u32 t2, .int .u32 t3, .int .u32 t4, .int .u32 t5], .int .u32 va, .slice a3 len3 cap3, .bool u] w fun e w' => e = .returned (.bool true) ∧ Below w.heap.size w w' := by
  obtain ⟨l, rfl, hr, hm, hwf, hc⟩ := ReadsInt.ofRowC w0
  obtain ⟨bs, rfl, hr2, hm2, hwf2, hc2⟩ := ReadsInt.ofRowC w3
  have r : ∀ {x : Int}, (Lit.int .u32 x).wf = true → R32 x := fun {x} h => by
    obtain ⟨n, rfl, hn⟩ := u32_nat h
    unfold R32; omega
  have by8 : ∀ {zs : List Int}, (∀ x ∈ zs, (Lit.int .u8 x).wf = true) → Bytes zs := fun h x hx => by
    obtain ⟨j, rfl, hj⟩ := u8_nat (h x hx); omega
  by_cases h : 8192 < l.length ∨ 1024 < bs.length
  · exact all_off a0 _ cap0 ⟨t1, t2, t3, t4, t5⟩ va a3 _ cap3 u w h
  · have hT : Tabs.ok ⟨t1, t2, t3, t4, t5⟩ := ⟨r h1, r h2, r h3, r h4, r h5⟩
    obtain ⟨xs, ⟨fk, fv, fi⟩, ps1, p1⟩ := Pcs.ex ⟨t1, t2, t3, t4, t5⟩ l u true true _ [] va bs.length (Nat.le_refl _)
    obtain ⟨ys, g, ps2, p2⟩ := Pcs.ex ⟨t1, t2, t3, t4, t5⟩ l u true true _ ps1 va bs.length (Nat.le_refl _)
    have sm := p1.same (Cons.nil _ _)
    obtain ⟨rfl, rfl⟩ := sm.2 p2 sm.1
    by_cases hk : fk = 0
    · have := p1.good.1 hk
      simp only [noF, Prod.mk.injEq] at this
      obtain ⟨rfl, rfl, rfl⟩ := this
      exact all_fine a0 cap0 l ⟨t1, t2, t3, t4, t5⟩ va a3 cap3 bs u w (by omega) (by omega) (r hv) hr (by8 hwf) hT hr2 (by8 hwf2) hc2 ys ps1 ps2 p1 p2
    · exact all_flt a0 cap0 l ⟨t1, t2, t3, t4, t5⟩ va a3 cap3 bs u w (by omega) (by omega) (r hv) hr (by8 hwf) hT hr2 (by8 hwf2) hc2 ys fk fv fi (beq_eq_false_iff_ne.mpr hk) ps1 ps2 p1 p2
end Go.Proofs.Ytiogbgjeimdgmaa.MmuWalk
