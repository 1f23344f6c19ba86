/- FetchRuns, walked. -/
import Derived.Test.YtiogbgjeimdgmaaRefS
import Derived.Test.YtiogbgjeimdgmaaFetI
namespace Go.Proofs.Ytiogbgjeimdgmaa.RefWalk
open Go.RowKit Go.Proofs.Ytiogbgjeimdgmaa.Aid Go.Proofs.YtiogbgjeimdgmaaW.PrintWords Go.Proofs.YtiogbgjeimdgmaaW.PrintLast Go.Proofs.YtiogbgjeimdgmaaW.PrintMore
open Go.Proofs.Ytiogbgjeimdgmaa.MmuWalk (Chg R32 Flt fltV noF flt infoF infoB Tabs row_ty own_keep two_ty box1 row_then foot mine MmuAt MStep NextRow mTy noT mnew_call mset_call falive_call ram_below1 cycF cycF_pc goodF pk InvQ Far findF pk_find pk_find_bad take_snoc0)
open Go.Proofs.Ytiogbgjeimdgmaa.RamWalk (Bytes leN own_cell putL RamAt new_nat load_n)
open Go.Proofs.Ytiogbgjeimdgmaa.TlbWalk (RefAt own_then own_val own_some dropP)
attribute [local go_sem] max2_int min2_int max_two min_two max_three min_three max_four min_four   -- for this text's walks alone
set_option linter.unusedVariables false
set_option linter.unusedSimpArgs false
/-- What the loop keeps. -/
def SR (w0 W : World) (L R : LocR) (T : Tabs) (l : List Int) (q : Nat) (pq : Int) (u : Bool) (bs : List Int) (f : Flt) : Prop := ∃ v vp ve vb, FU w0 w0 (fun _ => False) W L R v vp ve T [] l T false [] l q vb pq u bs f
set_option maxRecDepth 100000 in
theorem fruns_off (A : Option Addr) (l : List Int) (c : Nat) (T : Tabs) (pc0 : Int) (u : Bool) (A1 : Option Addr) (n1 c1 : Nat) (w : World) (h : 8192 < l.length) :
    Calls Try.prog 3 #[.slice A l.length c, .agg #[.int .u32 T.p0b, .int .u32 T.p0l, .int .u32 T.sb, .int .u32 T.sl, .int .u32 T.men], .int .u32 pc0, .bool u, .slice A1 n1 c1] w fun e w' => e = .returned (.bool true) ∧ Below w.heap.size w w' := by
  have h2 : (8192 : Int) < l.length := by omega
  clear h
  go_enter Try.func3, Try.ntmps3
  go_wp2_with (first
    | (go_at_call 13; (with_reducible refine (falive_call _).mono ?_); rintro e w0 ⟨rfl, hb0⟩; have B0 := Aside0.mk (below_step (below_alloc (Below.refl w.heap.size w) _) hb0); clear hb0))
  go_ret
  exact ⟨rfl, B0.out⟩
set_option maxRecDepth 100000 in
theorem fruns_many (A : Option Addr) (l : List Int) (c : Nat) (T : Tabs) (pc0 : Int) (u : Bool) (A1 : Option Addr) (n1 c1 : Nat) (w : World) (h : l.length ≤ 8192) (h60 : 60 < n1) :
    Calls Try.prog 3 #[.slice A l.length c, .agg #[.int .u32 T.p0b, .int .u32 T.p0l, .int .u32 T.sb, .int .u32 T.sl, .int .u32 T.men], .int .u32 pc0, .bool u, .slice A1 n1 c1] w fun e w' => e = .returned (.bool true) ∧ Below w.heap.size w w' := by
  have h2 : ¬ (8192 : Int) < l.length := by omega
  have h3 : (60 : Int) < n1 := by omega
  clear h h60
  go_enter Try.func3, Try.ntmps3
  go_wp2_with (first
    | (go_at_call 13; (with_reducible refine (falive_call _).mono ?_); rintro e w0 ⟨rfl, hb0⟩; have B0 := Aside0.mk (below_step (below_alloc (Below.refl w.heap.size w) _) hb0); clear hb0))
  go_ret
  exact ⟨rfl, B0.out⟩
set_option maxRecDepth 100000 in
set_option maxHeartbeats 8000000 in
theorem fruns_ok (A : Option Addr) (c : Nat) (l : List Int) (T : Tabs) (pc0 : Int) (u : Bool) (A1 : Option Addr) (n1 c1 : Nat) (ks : List Int) (w : World) (hn : l.length ≤ 8192) (hl : ReadsInt w .u8 A l.length l) (hb : Bytes l) (hT : T.ok) (hpc : R32 pc0) (h60 : n1 ≤ 60) (hk : ReadsInt w .i64 A1 n1 ks) :
    Calls Try.prog 3 #[.slice A l.length c, .agg #[.int .u32 T.p0b, .int .u32 T.p0l, .int .u32 T.sb, .int .u32 T.sl, .int .u32 T.men], .int .u32 pc0, .bool u, .slice A1 n1 c1] w fun e w' => e = .returned (.bool true) ∧ Below w.heap.size w w' := by
  have HL := Aside0.mk hl
  have HB := Aside0.mk hb
  have HT := Aside0.mk hT
  have HP := Aside0.mk hpc
  have HK := Aside0.mk hk
  have AP := Aside0.mk (fun (w0 W : World) (g b c' g' b' c2 : Nat) (l1 l2 : List Int) (h0 : Below w.heap.size w w0) (h : RR w0 W g b c' g' b' c2 l.length l1 l2) => (fun a ha hp => by
    obtain ⟨ad, he, hcell⟩ := HL.out.2.2 hp
    have hbk := World.block_lt_of_cell? w _ (hcell 0 hp)
    rw [he] at ha
    simp only [Option.some.injEq] at ha
    subst ha
    have hz : (ad.add 0).block = ad.block := rfl
    rw [hz] at hbk
    have := own_base h.r.2.2.1 b' rfl
    have := h0.size
    intro e
    omega : ∀ a, A = some a → 0 < l.length → a.block ≠ b'))
  have NEW := Aside0.mk (fun w => new_nat l.length w (by omega))
  have RNEW := Aside0.mk (fun w => rnew_call l.length w (by omega))
  have ST := Aside0.mk (fun (w : World) (X : List Int) (n : Nat) (hX : X.length = n) (A : Option Addr) (c : Nat) (h : ReadsInt w .u8 A n X) => (by subst hX; exact string_of_reads (P := Try.prog) Try.underlying22 Try.underlying5 Try.underlying9 h : (convert 22 9 (.slice A n c)).run Try.prog w = .ok (.string (strOfNums X)) w))
  have h2 : ¬ (8192 : Int) < l.length := by omega
  have h3 : ¬ (60 : Int) < n1 := by omega
  clear hl hb hT hpc hk
  go_enter Try.func3, Try.ntmps3
  go_wp2_with (first
    | (go_at_call 13; (with_reducible refine (falive_call _).mono ?_); rintro e w0 ⟨rfl, hb0⟩; have B0 := Aside0.mk (below_step (below_alloc (Below.refl w.heap.size w) _) hb0); have X0 := Aside0.mk (row_then (heap_alloc_new w _) hb0); clear hb0)
    | (go_at_call 14; (with_reducible refine (NEW.out _).mono ?_); rintro e w1 ⟨gr, b, rfl, hr, hbel⟩; have R1 := Aside0.mk hr; have B1 := Aside0.mk hbel; clear hr hbel)
    | (go_at_call 15; (with_reducible refine (RNEW.out _).mono ?_); rintro e w2 ⟨gr', b', rfl, hr, hbel⟩; have R2 := Aside0.mk (rr_new B1.out R1.out hbel hr); clear hr hbel)
    | (go_at_call 16; (with_reducible refine (load_n _ _ _ _ _ _ _ l _ _ R2.out.m (HL.out.below (below_step B0.out R2.out.below))).mono ?_); rintro e w3 ⟨rfl, hr, hg⟩; have R3 := Aside0.mk (rr_load R2.out hr hg); clear hr hg)
    | (go_at_call 17; (with_reducible refine (rload_all _ _ _ _ _ _ _ l _ _ rfl List.length_replicate R3.out.r (HL.out.below (below_step B0.out R3.out.below)) (AP.out _ _ _ _ _ _ _ _ _ _ B0.out R3.out)).mono ?_); rintro e w4 ⟨rfl, hr, hg⟩; have R4 := Aside0.mk (rr_rload R3.out hr hg); clear hr hg)
    | (go_at_call 18; (with_reducible refine (mnew_call _ _ _ _ _ l R4.out.m HB.out).mono ?_); rintro e w5 ⟨m, t, rfl, hm, hbel, _, _⟩; have M5 := Aside0.mk hm; have Q5 := Aside0.mk (R4.out.r.then hbel); have B5 := Aside0.mk (below_step R4.out.below hbel); clear hm hbel)
    | (go_at_call 19; (with_reducible refine (rmnew_call _ _ _ _ _ l Q5.out HB.out).mono ?_); rintro e w6 ⟨m', t', rfl, hm, hbel, _, _⟩; have D6 := Aside0.mk (show DU w0 w0 (fun _ => False) w6 ⟨m, gr, b, l.length, t⟩ ⟨m', gr', b', l.length, t'⟩ (.slice none 0 0) (.slice none 0 0) (.slice none 0 0) noT [] l noT false [] l from du_new (below_step B5.out hbel) (M5.out.then hbel) hm R4.out.ne); have X6 := Aside0.mk (row_then X0.out (below_step B5.out hbel)); have e0 := cell_of_row _ _ 0 _ _ _ X6.out; have e1 := cell_of_row _ _ 1 _ _ _ X6.out; have e2 := cell_of_row _ _ 2 _ _ _ X6.out; have e3 := cell_of_row _ _ 3 _ _ _ X6.out; have e4 := cell_of_row _ _ 4 _ _ _ X6.out; simp only [List.getElem?_toArray, List.getElem?_cons_zero, List.getElem?_cons_succ] at e0 e1 e2 e3 e4; clear hm hbel)
    | (go_at_call 20; (with_reducible refine (mset_call _ _ ⟨m, gr, b, l.length, t⟩ _ noT T [] l D6.out.m HT.out).mono ?_); rintro e w7 ⟨rfl, s⟩; obtain ⟨v7, D7⟩ := D6.out.stepM s; have D7 := Aside0.mk D7; have X7 := Aside0.mk (row_then X0.out D7.out.below); have S5 := Aside0.mk (rm_put5_step D7.out.r T HT.out); have D8 := Aside0.mk (D7.out.stepR S5.out); have c2 := D7.out.r.cell 2; have c3 := D7.out.r.cell 3; have c4 := D7.out.r.cell 4; have c5 := D7.out.r.cell 5; have c6 := D7.out.r.cell 6; have f2 := D7.out.r.free 2; have f3 := D7.out.r.free 3; have f4 := D7.out.r.free 4; have f5 := D7.out.r.free 5; have f6 := D7.out.r.free 6; clear e0 e1 e2 e3 e4; have e0 := cell_of_row _ _ 0 _ _ _ X7.out; have e1 := cell_of_row _ _ 1 _ _ _ X7.out; have e2 := cell_of_row _ _ 2 _ _ _ X7.out; have e3 := cell_of_row _ _ 3 _ _ _ X7.out; have e4 := cell_of_row _ _ 4 _ _ _ X7.out; simp only [rmCells, List.getElem?_toArray, List.getElem?_cons_zero, List.getElem?_cons_succ] at e0 e1 e2 e3 e4 c2 c3 c4 c5 c6; clear s))
  clear c2 c3 c4 c5 c6 f2 f3 f4 f5 f6 e0 e1 e2 e3 e4
  obtain ⟨vp8, ve8, d8, _, _⟩ := D8.out
  have D9 := Aside0.mk (show ∃ v vp ve, DU w0 w0 (fun _ => False) (((((w7.setCell ⟨m', 2, none⟩ (.int .u32 T.p0b)).setCell ⟨m', 3, none⟩ (.int .u32 T.p0l)).setCell ⟨m', 4, none⟩ (.int .u32 T.sb)).setCell ⟨m', 5, none⟩ (.int .u32 T.sl)).setCell ⟨m', 6, none⟩ (.int .u32 T.men)) ⟨m, gr, b, l.length, t⟩ ⟨m', gr', b', l.length, t'⟩ v vp ve T [] l T false [] l from ⟨_, _, _, d8⟩)
  clear d8 D8 S5
  generalize (((((w7.setCell ⟨m', 2, none⟩ (.int .u32 T.p0b)).setCell ⟨m', 3, none⟩ (.int .u32 T.p0l)).setCell ⟨m', 4, none⟩ (.int .u32 T.sb)).setCell ⟨m', 5, none⟩ (.int .u32 T.sl)).setCell ⟨m', 6, none⟩ (.int .u32 T.men)) = w8 at *
  obtain ⟨L, hL⟩ : ∃ L : LocR, (⟨m, gr, b, l.length, t⟩ : LocR) = L := ⟨_, rfl⟩
  obtain ⟨RL, hR⟩ : ∃ L : LocR, (⟨m', gr', b', l.length, t'⟩ : LocR) = L := ⟨_, rfl⟩
  obtain rfl : m = L.m := by rw [← hL]
  obtain rfl : gr = L.r := by rw [← hL]
  obtain rfl : m' = RL.m := by rw [← hR]
  rw [hL, hR] at D9
  clear hL hR D6 D7 M5 Q5 R1 R2 R3 R4 X0 X6 B1 B5 AP NEW RNEW
  obtain ⟨v9, vp9, ve9, d9⟩ := D9.out
  have D10 := Aside0.mk d9
  clear D9 d9
  go_wp2_with (first
    | (go_at_call 21; (with_reducible refine (fu_new D10.out D10.out.below.size).mono ?_); rintro e w9 ⟨q, rfl, hq, hbe, fu⟩; have F9 := Aside0.mk fu; clear fu hq hbe)
    | (go_at_call 22; (with_reducible refine (fu_flush pc0 u F9.out).mono ?_); rintro e w10 ⟨rfl, v11, vb11, fu⟩; have F10 := Aside0.mk (show SR w0 w10 L RL T l q pc0 u [] noF from ⟨_, _, _, _, fu⟩); clear fu))
  clear F9 D10
  go_loopw [68, 2] (fun iv pv wr => ∃ (k : Nat) (pc pq : Int) (bs : List Int) (f : Flt), k ≤ n1 ∧ iv = .int .i64 k ∧ pv = .int .u32 pc ∧ Aside0 (R32 pc ∧ R32 pq ∧ InvQ T [] l pc u pq bs f) ∧ Aside0 (SR w0 wr L RL T l q pq u bs f)) (fun iv _ _ => n1 - (intOf iv).toNat)
  case atStart => exact ⟨0, pc0, pc0, [], noF, Nat.zero_le _, rfl, rfl, ⟨HP.out, HP.out, InvQ.new HP.out⟩, F10⟩
  case round =>
    obtain ⟨i, pc, pq, bs, f, hi, rfl, rfl, I, S⟩ := hrel
    clear F10
    by_cases hin : i = n1
    · subst hin
      obtain ⟨_, _, _, _, fu⟩ := S.out
      have BW := Aside0.mk (below_step B0.out fu.du.below)
      clear fu
      go_wp2
      go_ret
      exact ⟨rfl, BW.out⟩
    · have hi' : i < n1 := by omega
      have HI := Aside0.mk hi'
      obtain ⟨ad, rfl, hks⟩ := HK.out.2.2 (by omega)
      have kc0 := hks i hi'
      have kl := World.block_lt_of_cell? w _ kc0
      obtain ⟨_, _, _, _, fu⟩ := S.out
      have BW := Aside0.mk (below_step B0.out fu.du.below)
      clear fu
      have kc := (BW.out.cell kl).trans kc0
      clear kc0 kl hks
      obtain ⟨kk, hkk⟩ : ∃ x, ks.getD i 0 = x := ⟨_, rfl⟩
      rw [hkk] at kc
      clear hkk
      by_cases hneg : kk < 0
      · go_wp2_with fail
        go_roundw
        case rel => exact ⟨i + 1, pc, pq, bs, f, HI.out, by go_num, rfl, I, S⟩
        case measure => have := HI.out; simp [intOf]; omega
      by_cases hbig : 16 < kk
      · go_wp2_with fail
        go_roundw
        case rel => exact ⟨i + 1, pc, pq, bs, f, HI.out, by go_num, rfl, I, S⟩
        case measure => have := HI.out; simp [intOf]; omega
      obtain ⟨n, rfl⟩ : ∃ n : Nat, kk = n := ⟨kk.toNat, by omega⟩
      have N16 := Aside0.mk (show n ≤ 16 by omega)
      go_wp2_with fail
      clear kc
      obtain ⟨wc, rfl⟩ : ∃ wc : World, wc = wr := ⟨_, rfl⟩
      go_loopw [18] (fun jv wr => ∃ (j : Nat) (pq : Int) (bs : List Int) (f : Flt), j ≤ 17 ∧ jv = .int .i64 j ∧ Aside0 (R32 pc ∧ R32 pq ∧ InvQ T [] l pc u pq bs f ∧ Far j bs f) ∧ Aside0 (SR w0 wr L RL T l q pq u bs f)) (fun jv _ => 17 - (intOf jv).toNat)
      case atStart => exact ⟨0, pq, bs, f, by omega, rfl, ⟨I.out.1, I.out.2.1, I.out.2.2, .inl (Nat.zero_le _)⟩, S⟩
      case round =>
        clear S I BW
        obtain ⟨j, pq, bs, f, hj, rfl, I, S⟩ := hrel
        obtain ⟨v, vp, ve, vb, fu⟩ := S.out
        have F0 := Aside0.mk fu
        clear fu S
        by_cases hj17 : j = 17
        · subst hj17
          rw [show ((17 : Nat) : Int) = 17 from rfl]
          obtain ⟨fk, fv, fi⟩ := f
          have ST16 := Aside0.mk (show 16 ≤ bs.length ∨ fk ≠ 0 from by
            rcases I.out.2.2.2 with h | h
            · exact .inl (by omega)
            · exact h)
          go_wp2_with fail
          obtain ⟨W1, rfl⟩ : ∃ x : World, x = wr := ⟨_, rfl⟩
          go_loopw [19, 21] (fun wv jv wr => ∃ (j m : Nat) (A : Option Addr) (c : Nat) (g : Flt), jv = .int .i64 j ∧ wv = .slice A m c ∧ ((g = noF ∧ j = m ∧ m ≤ n ∧ m ≤ bs.length) ∨ (g = (fk, fv, fi) ∧ fk ≠ 0 ∧ bs.length < n ∧ m = bs.length ∧ j = m + 1)) ∧
            Aside0 (wr.ownsRow W1.heap.size 5 1 (.slice A m c) m (nums .u8 (bs.take m))) ∧ Aside0 (Below W1.heap.size W1 wr) ∧ Aside0 (wr.heap[W1.heap.size]? = some (.cells #[.int .i64 g.1, .int .u32 g.2.1, .int .u32 g.2.2] 47 (0, 0)))) (fun _ jv _ => n + 1 - (intOf jv).toNat)
          case atStart => exact ⟨0, 0, none, 0, noF, rfl, rfl, .inl ⟨rfl, rfl, Nat.zero_le _, Nat.zero_le _⟩, ⟨World.ownsRow_nil _ _ _ _⟩, ⟨below_alloc (Below.refl _ _) _⟩, ⟨heap_alloc_new _ _⟩⟩
          case round =>
            obtain ⟨j, m, A', c', g, rfl, rfl, hjm, O, B, X⟩ := hrel
            have hNE : (Value.slice A' m c').ownBlock ≠ some W1.heap.size := fun e => by
              obtain ⟨cur, hc⟩ := row_ty O.out _ e
              exact ty_cells hc X.out (by decide) rfl
            have hRL : ∀ i, (Value.slice A' m c').ownBlock = some i → W1.heap.size ≤ i ∧ i < wr.heap.size := fun i hi => ⟨own_base O.out i hi, own_lt O.out i hi⟩
            have hBX : W1.heap.size < wr.heap.size := (Array.getElem?_eq_some_iff.1 X.out).1
            have FX := Aside0.mk (F0.out.inF (F := fun i => i = W1.heap.size ∨ (Value.slice A' m c').ownBlock = some i) B.out (fun i hi => by
              rcases hi with rfl | hi
              · exact ⟨Nat.le_refl _, hBX⟩
              · exact hRL i hi))
            have x0 := cell_of_row _ _ 0 _ _ _ X.out
            have x1 := cell_of_row _ _ 1 _ _ _ X.out
            have x2 := cell_of_row _ _ 2 _ _ _ X.out
            simp only [List.getElem?_toArray, List.getElem?_cons_zero, List.getElem?_cons_succ] at x0 x1 x2
            have NE := Aside0.mk hNE
            have BXL := Aside0.mk hBX
            have RLE := Aside0.mk hRL
            clear hNE hRL hBX
            rcases hjm with ⟨rfl, rfl, hmn, hml⟩ | ⟨rfl, hf1, hlt, rfl, rfl⟩
            · simp only [noF] at x0 x1 x2
              have X := Aside0.mk (show wr.heap[W1.heap.size]? = some (.cells #[.int .i64 0, .int .u32 0, .int .u32 0] 47 (0, 0)) from X.out)
              by_cases hjn : j = n
              · subst hjn
                have TK := Aside0.mk (fu_have j FX.out hml I.out.2.2.1.len)
                have TL := Aside0.mk (show (bs.take j).length = j by rw [List.length_take]; omega)
                have DR := Aside0.mk (I.out.2.2.1.drop j hml)
                go_wp2_with (first
                  | (go_at_call 25; (with_reducible refine (TK.out).mono ?_); rintro e w3 ⟨A9, c9, rfl, o9, v9, vb9, fu9⟩; have F9 := Aside0.mk fu9; have X9 := Aside0.mk (((fu9.du.fr W1.heap.size (.inl rfl)).2.1).trans X.out); have O9 := Aside0.mk (own_keep O.out (fun i hi => (fu9.du.fr i (.inr hi)).2.1)); have s9 := fun o => ST.out (w3.alloc o) _ j TL.out _ c9 (own_reads' (own_then o9 (below_alloc (Below.refl _ _) o))); have s8 := fun o => ST.out (w3.alloc o) _ j TL.out _ c' (own_reads' (own_then O9.out (below_alloc (Below.refl _ _) o))); have y0 := fun o j => cell_of_row (w3.alloc o) W1.heap.size j _ _ _ (row_then X9.out (below_alloc (Below.refl _ _) o)); clear fu9 o9 x0 x1 x2))
                go_roundw
                case rel => exact ⟨i + 1, (pc + j) % 4294967296, pq, bs.drop j, (fk, fv, fi), HI.out, by go_num, by go_num, ⟨⟨Int.emod_nonneg _ (by decide), Int.emod_lt_of_pos _ (by decide)⟩, I.out.2.1, DR.out⟩, ⟨_, _, _, _, (F9.out.outF).then (below_alloc (Below.refl _ _) _)⟩⟩
                case measure => have := HI.out; simp [intOf]; omega
              · have hjn' : (j : Int) < n := by omega
                have HJN := Aside0.mk (show j < n by omega)
                have hj16 : (j : Int) ≤ 16 := by have := N16.out; omega
                have hR : R32 ((pc + j) % 4294967296) := ⟨Int.emod_nonneg _ (by decide), Int.emod_lt_of_pos _ (by decide)⟩
                have hfr := Go.Proofs.Ytiogbgjeimdgmaa.MmuWalk.findF_r' (T := T) (ps := []) (l := l) ((pc + j) % 4294967296) 1 hR u false
                obtain ⟨pa, hpa⟩ : ∃ a : Nat, (findF T [] l ((pc + j) % 4294967296) 1 u false).1 = a := ⟨(findF T [] l ((pc + j) % 4294967296) 1 u false).1.toNat, by have := hfr.1; omega⟩
                have FI := rfind_nk wr w0.heap.size RL _ _ T false [] l ((pc + j) % 4294967296) 1 u false hR FX.out.du.r
                rw [show ((1 : Nat) : Int) = 1 from rfl, hpa] at FI
                have PC := Aside0.mk I.out.1
                by_cases hjl : j < bs.length
                · obtain ⟨z1, z2⟩ := I.out.2.2.1.byte j hjl
                  obtain ⟨e1, e2, e3⟩ := pk_find z1
                  rw [hpa] at e2 e3
                  rw [e1] at FI
                  rw [z2, show ((pa : Nat) : Int).toNat = pa from rfl] at e3
                  have FI := Aside0.mk (show Calls Try.prog 24 #[.pointer (some ⟨RL.m, 0, none⟩), .int .u32 ((pc + j) % 4294967296), .int .i64 1, .bool u, .bool false, .bool false] wr fun e w' => e = .returned (.tuple #[.int .u32 pa, .agg #[.int .i64 0, .int .u32 0, .int .u32 0]]) ∧ Below wr.heap.size wr w' from FI)
                  have hp1 : (pa : Int) < l.length := by omega
                  have hp0 : (0 : Int) ≤ pa := by omega
                  have TS := Aside0.mk (take_snoc0 bs j hjl)
                  have HJL := Aside0.mk hjl
                  have E3 := Aside0.mk e3
                  have TLj := Aside0.mk (show (bs.take j).length = j by rw [List.length_take]; omega)
                  have TLk := Aside0.mk (show (bs.take (j + 1)).length = j + 1 by rw [List.length_take]; omega)
                  clear z1 z2 e1 e2 e3 hpa hfr hR
                  obtain ⟨y, hy⟩ : ∃ y, bs.getD j 0 = y := ⟨_, rfl⟩
                  rw [hy] at TS E3
                  clear hy
                  go_wp2_with (first
                    | (go_at_call 24; (with_reducible refine (FI.out).mono ?_); rintro e w4 ⟨rfl, hb4⟩; have B4 := Aside0.mk (below_step B.out (below_step hb4 (below_alloc (Below.refl w4.heap.size w4) (.cells #[.int .i64 0, .int .u32 0, .int .u32 0] 47 (0, 0))))); have K4 := Aside0.mk (fun o => below_step hb4 (below_alloc (Below.refl w4.heap.size w4) o)); have q0 := fun o => (FX.out.then (K4.out o)).du.r.cell 0; have r0 := fun o => (FX.out.then (K4.out o)).du.r.ram.field.2.2; have y0 := fun o => own_cell (i := pa) (FX.out.then (K4.out o)).du.r.ram.2.2.1 (by omega); rw [E3.out] at y0; simp only [rmCells, List.getElem?_toArray, List.getElem?_cons_zero, List.getElem?_cons_succ] at q0; clear hb4)
                    | (at_builtin; refine print_append_num (w0 := W1) W1.heap.size rfl (.tmp 108) (.tmp 119) 22 5 .u8 1 rfl Try.underlying22 infoB (by decide) (.slice A' j c') (bs.take j) y rfl (by rw [show (w4.alloc (.cells #[.int .i64 0, .int .u32 0, .int .u32 0] 47 (0, 0))).heap.size = w4.heap.size + 1 from Array.size_push _]; rfl) (by rw [TLj.out]; exact own_then O.out (K4.out _)) B4.out B4.out.size (by have := TLj.out; have := HJL.out; have := N16.out; have := HJN.out; omega) ?_; intro v1 w5 ho hb hg hat; rw [← TS.out, TLk.out] at ho; obtain ⟨A9, c9, rfl⟩ := own_val ho; have O9 := Aside0.mk ho; have B9 := Aside0.mk hb; have X9 := Aside0.mk ((hg.block W1.heap.size (Nat.lt_of_lt_of_le BXL.out (K4.out _).size) (fun e => NE.out e.symm)).trans (row_then X.out (K4.out _))); clear ho hb hg hat))
                  go_roundw
                  case rel => exact ⟨j + 1, j + 1, A9, c9, noF, by go_num, rfl, .inl ⟨rfl, rfl, HJN.out, HJL.out⟩, O9, B9, X9⟩
                  case measure => have := HJN.out; simp [intOf]; omega
                · obtain rfl : j = bs.length := by omega
                  have hk : fk ≠ 0 := by
                    rcases ST16.out with h | h
                    · have := N16.out; have := HJN.out; omega
                    · exact h
                  have e1 := I.out.2.2.1.flt hk
                  have e2 := pk_find_bad (T := T) (ps := []) (l := l) (pc := pc) (u := u) (j := bs.length) (by rw [← e1]; exact hk)
                  rw [e2, ← e1] at FI
                  have FI := Aside0.mk (show Calls Try.prog 24 #[.pointer (some ⟨RL.m, 0, none⟩), .int .u32 ((pc + bs.length) % 4294967296), .int .i64 1, .bool u, .bool false, .bool false] wr fun e w' => e = .returned (.tuple #[.int .u32 pa, .agg #[.int .i64 fk, .int .u32 fv, .int .u32 fi]]) ∧ Below wr.heap.size wr w' from FI)
                  have hk1 : (fk == 0) = false := beq_eq_false_iff_ne.mpr hk
                  have hk2 : (fk != 0) = true := bne_iff_ne.mpr hk
                  have HKK := Aside0.mk hk
                  clear e1 e2 hpa hfr hR hjl hml hmn hjn
                  go_wp2_with (first
                    | (go_at_call 24; (with_reducible refine (FI.out).mono ?_); rintro e w4 ⟨rfl, hb4⟩; have K4 := Aside0.mk (fun o => below_step hb4 (below_alloc (Below.refl w4.heap.size w4) o)); have z0 := fun o j => cell_of_row (w4.alloc o) W1.heap.size j _ _ _ (row_then X.out (K4.out o)); have g0 := fun o j => frozen_of_row (w4.alloc o) W1.heap.size j _ _ (row_then X.out (K4.out o)); clear hb4))
                  go_roundw
                  case rel => exact ⟨bs.length + 1, bs.length, A', c', (fk, fv, fi), by go_num, rfl, .inr ⟨rfl, HKK.out, HJN.out, rfl, rfl⟩, ⟨ownsRow_setCell_other (ownsRow_setCell_other (ownsRow_setCell_other (own_then O.out (K4.out _)) NE.out _) NE.out _) NE.out _⟩, ⟨below_set (below_set (below_set (below_step B.out (K4.out _)) (Nat.le_refl _)) (Nat.le_refl _)) (Nat.le_refl _)⟩, ⟨Go.Proofs.Ytiogbgjeimdgmaa.MmuWalk.fill_row (row_then X.out (K4.out _)) _ _ _⟩⟩
                  case measure => have := HJN.out; simp [intOf]; omega
            · simp only at x0 x1 x2
              have TK := fu_none n FX.out (by omega) (by have := N16.out; omega)
              have hk1 : (fk == 0) = false := beq_eq_false_iff_ne.mpr hf1
              have hk2 : (fk != 0) = true := bne_iff_ne.mpr hf1
              simp only [hk2] at TK
              have TK := Aside0.mk (show Calls Try.prog 25 #[.pointer (some ⟨q, 0, none⟩), .int .i64 n] wr fun e w' => e = .returned (.tuple #[.slice none 0 0, .agg #[.int .i64 fk, .int .u32 fv, .int .u32 fi], .bool true]) ∧ Below wr.heap.size wr w' from TK)
              have X := Aside0.mk (show wr.heap[W1.heap.size]? = some (.cells #[.int .i64 fk, .int .u32 fv, .int .u32 fi] 47 (0, 0)) from X.out)
              by_cases hlt1 : (bs.length : Int) + 1 < n
              all_goals (
                clear hlt
                go_wp2_with (first
                  | (go_at_call 25; (with_reducible refine (TK.out).mono ?_); rintro e w3 ⟨rfl, hb3⟩; have K3 := Aside0.mk (fun o => below_step hb3 (below_alloc (Below.refl w3.heap.size w3) o)); have y0 := fun o j => cell_of_row (w3.alloc o) W1.heap.size j _ _ _ (row_then X.out (K3.out o)); clear hb3 x0 x1 x2))
                go_roundw
                case rel => exact ⟨i + 1, pc, pq, bs, (fk, fv, fi), HI.out, by go_num, rfl, ⟨I.out.1, I.out.2.1, I.out.2.2.1⟩, ⟨_, _, _, _, (FX.out.then (K3.out _)).outF⟩⟩
                case measure => have := HI.out; simp [intOf]; omega)
        · have hj' : j < 17 := by omega
          have HJ := Aside0.mk hj'
          have C1 := Aside0.mk (fu_cycle F0.out I.out.2.1 I.out.2.2.1.good)
          have NI := Aside0.mk (show R32 pc ∧ R32 (cycF T [] l pq u bs f).1 ∧ InvQ T [] l pc u (cycF T [] l pq u bs f).1 (cycF T [] l pq u bs f).2.1 (cycF T [] l pq u bs f).2.2 ∧ Far (j + 1) (cycF T [] l pq u bs f).2.1 (cycF T [] l pq u bs f).2.2 from ⟨I.out.1, cycF_pc I.out.2.1, I.out.2.2.1.cyc, I.out.2.2.2.cyc⟩)
          generalize cycF T [] l pq u bs f = r at *
          go_wp2_with (first
            | (go_at_call 23; (with_reducible refine (C1.out).mono ?_); rintro e w11 ⟨rfl, v', vb', fu⟩; have F1 := Aside0.mk (show SR w0 w11 L RL T l q r.1 u r.2.1 r.2.2 from ⟨_, _, _, _, fu⟩); clear fu))
          go_roundw
          case rel => exact ⟨j + 1, _, _, _, HJ.out, by go_num, NI, F1⟩
          case measure => have := HJ.out; simp [intOf]; omega
theorem FetchRuns_walk (a0 : Option Addr) (len0 cap0 : Nat) (z0 : List Int) (t1 t2 t3 t4 t5 pc : Int) (u : Bool) (a4 : Option Addr) (len4 cap4 : Nat) (z4 : List Int) (w : World) (w0 : IsRow .u8 w a0 len0 cap0 z0) (_ : len0 * 1 ≤ 140737488351232)
    (h1 : (Lit.int .u32 t1).wf = true) (h2 : (Lit.int .u32 t2).wf = true) (h3 : (Lit.int .u32 t3).wf = true) (h4 : (Lit.int .u32 t4).wf = true) (h5 : (Lit.int .u32 t5).wf = true) (hp : (Lit.int .u32 pc).wf = true) (w4 : IsRow .i64 w a4 len4 cap4 z4) (_ : len4 * 8 ≤ 140737488351232) :
    Calls Try.prog 3 #[.slice a0 len0 cap0, .agg #[.int .u32 t1, .int .u32 t2, .int .u32 t3, .int .u32 t4, .int .u32 t5], .int .u32 pc, .bool u, .slice a4 len4 cap4] w fun e w' => e = .returned (.bool true) ∧ Below w.heap.size w w' := by
  obtain ⟨l, rfl, hr, hm, hwf, hc⟩ := ReadsInt.ofRowC w0
  obtain ⟨ks, rfl, hk, hm4, hwf4, hc4⟩ := ReadsInt.ofRowC w4
  have rr : ∀ {x : Int}, (Lit.int .u32 x).wf = true → R32 x := fun {x} h => by
    obtain ⟨n, rfl, hn⟩ := u32_nat h
    unfold R32; omega
  have hT : Tabs.ok ⟨t1, t2, t3, t4, t5⟩ := ⟨rr h1, rr h2, rr h3, rr h4, rr h5⟩
  have hby : Bytes l := fun x hx => by obtain ⟨j, rfl, hj⟩ := u8_nat (hwf x hx); omega
  by_cases h : 8192 < l.length
  · exact fruns_off a0 l cap0 ⟨t1, t2, t3, t4, t5⟩ pc u a4 _ cap4 w h
  · by_cases h60 : 60 < ks.length
    · exact fruns_many a0 l cap0 ⟨t1, t2, t3, t4, t5⟩ pc u a4 _ cap4 w (by omega) h60
    · exact fruns_ok a0 cap0 l ⟨t1, t2, t3, t4, t5⟩ pc u a4 _ cap4 ks w (by omega) hr hby hT (rr hp) (by omega) hk
end Go.Proofs.Ytiogbgjeimdgmaa.RefWalk
