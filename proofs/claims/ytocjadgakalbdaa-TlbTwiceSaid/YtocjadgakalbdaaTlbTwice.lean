/- A page that has an entry and gets another one stays where it stands; dropped and put it stands last: the walk of TlbTwice. -/
import Derived.Test.YtocjadgakalbdaaTlbF
import Derived.Test.YtocjadgakalbdaaWSized
namespace Go.Proofs.YtocjadgakalbdaaW.PrintWords
open Go.RowKit in
def IsRow (k : IntKind) (w : World) (a : Option Addr) (len cap : Nat) (zs : List Int) : Prop :=
  (a = none ∧ len = 0 ∧ cap = 0 ∧ zs = []) ∨
  ∃ x, a = some x ∧ len ≤ cap ∧ cap ≤ maxLen ∧ zs.length = cap ∧ (∀ i, i < zs.length → w.cell? (x.add i) = some (.int k (zs.getD i 0))) ∧ ∀ n ∈ zs, (Lit.int k n).wf = true
end Go.Proofs.YtocjadgakalbdaaW.PrintWords
namespace Go.Proofs.Ytocjadgakalbdaa.TlbWalk
open Go.RowKit Go.Proofs.Ytocjadgakalbdaa.Aid Go.Proofs.YtocjadgakalbdaaW.PrintWords Go.Proofs.YtocjadgakalbdaaW.PrintLast Go.Proofs.YtocjadgakalbdaaW.PrintMore
attribute [local go_sem] max2_int min2_int max_two min_two max_three min_three max_four min_four   -- for this text's walks alone
set_option linter.unusedVariables false
set_option linter.unusedSimpArgs false

theorem twice_long (A : Option Addr) (n cap : Nat) (at_ entry : Int) (w : World) (h : 60 < n) :
    Calls Try.prog 8 #[.slice A n cap, .int .i64 at_, .int .u32 entry] w fun e w' => e = .returned (.bool true) ∧ Below w.heap.size w w' := by
  go_enter Try.func8, Try.ntmps8
  go_wp2_with (first
    | (go_at_call 12; (with_reducible refine (alive_call _).mono ?_); rintro e w0 ⟨rfl, hb0⟩; have B0 := Aside0.mk hb0; clear hb0))
  go_ret
  exact ⟨rfl, B0.out⟩

/-- The law's loop: a buffer without a page twice; empty if nothing was put. -/
def TInv (w wr : World) (g k : Nat) (ps : List (Int × Int)) : Prop :=
  Below w.heap.size w wr ∧ (∃ v, TlbAt wr w.heap.size g v ps) ∧ (ps.map Prod.fst).Nodup ∧ (ps.length = 0 ↔ k = 0)
/-- What the law does to a buffer behind its loop. -/
theorem twice_plain (ps : List (Int × Int)) (h8 : ps.length ≤ 8) (hn : (ps.map Prod.fst).Nodup) (j : Nat) (hj : j < ps.length) (entry p : Int) (hp : p = (ps.getD j nil2).1) :
    entP p (putP p entry ps) = entry ∧ decide (posP p (putP p entry ps) < (putP p entry ps).length) = true ∧ (putP p entry ps).map Prod.fst = ps.map Prod.fst ∧
    decide (posP p (dropP p (putP p entry ps)) < (dropP p (putP p entry ps)).length) = false ∧ (putP p entry (dropP p (putP p entry ps))).length = ps.length ∧
    ((putP p entry (dropP p (putP p entry ps))).map Prod.fst).getD (ps.length - 1) 0 = p := by
  have hpos : posP p ps = j := by rw [hp]; exact pos_nodup ps hn j hj
  have e1 : putP p entry ps = ps.set j (p, entry) := by
    unfold putP
    rw [hpos, if_pos hj]
  have f1 : (putP p entry ps).map Prod.fst = ps.map Prod.fst := by rw [e1, hp, set_same_fst ps j hj entry]
  have l1 : (putP p entry ps).length = ps.length := by rw [e1, List.length_set]
  have g1 : (putP p entry ps).getD j nil2 = (p, entry) := by
    rw [e1, List.getD_eq_getElem?_getD, List.getElem?_set, if_pos rfl, if_pos hj]; rfl
  have n1 : ((putP p entry ps).map Prod.fst).Nodup := by rw [f1]; exact hn
  have hpos1 : posP p (putP p entry ps) = j := by
    have := pos_nodup (putP p entry ps) n1 j (by omega)
    rwa [g1] at this
  generalize putP p entry ps = qs at *
  have hd : dropP p qs = qs.take j ++ qs.drop (j + 1) := by
    unfold dropP
    rw [hpos1, if_pos (by omega)]
  have hnot : ∀ q ∈ dropP p qs, q.1 ≠ p := by
    intro q hq he
    rw [hd] at hq
    have hin : ∀ i, (hi : i < qs.length) → i ≠ j → (qs[i]).1 ≠ p := by
      intro i hi hij hpi
      have := pos_nodup qs n1 i hi
      rw [List.getD_eq_getElem?_getD, List.getElem?_eq_getElem hi] at this
      have h2 : posP (qs[i]).1 qs = i := this
      rw [hpi, hpos1] at h2
      exact hij h2.symm
    rcases List.mem_append.1 hq with hq | hq
    · obtain ⟨i, hi, rfl⟩ := List.getElem_of_mem hq
      rw [List.length_take] at hi
      rw [List.getElem_take] at he
      exact hin i (by omega) (by omega) he
    · obtain ⟨i, hi, rfl⟩ := List.getElem_of_mem hq
      rw [List.length_drop] at hi
      rw [List.getElem_drop] at he
      exact hin (j + 1 + i) (by omega) (by omega) he
  have hdl : (dropP p qs).length = ps.length - 1 := by
    rw [hd, List.length_append, List.length_take, List.length_drop]; omega
  have e3 : putP p entry (dropP p qs) = dropP p qs ++ [(p, entry)] := by
    unfold putP
    rw [posP_not p _ hnot, if_neg (Nat.lt_irrefl _), if_neg (by omega)]
  refine ⟨?_, decide_eq_true (by omega), f1, decide_eq_false (by rw [posP_not p _ hnot]; omega), by rw [e3, List.length_append, hdl]; simp; omega, ?_⟩
  · unfold entP
    rw [hpos1, if_pos (by omega), g1]
  · rw [e3, List.map_append, List.getD_eq_getElem?_getD, List.getElem?_append_right (by rw [List.length_map, hdl]; omega), List.length_map, hdl, Nat.sub_self]
    rfl

theorem pages_n (w : World) (base g n : Nat) (v : Value) (ps : List (Int × Int)) (L : List Int) (h : TlbAt w base g v ps) (hn : ps.length = n) (hL : ps.map Prod.fst = L) :
    Calls Try.prog 21 #[.pointer (some ⟨g, 0, none⟩)] w fun e w' => ∃ A c, e = .returned (.slice A n c) ∧ w'.ownsRow w.heap.size 22 1 (.slice A n c) n (nums .u32 L) ∧ Below w.heap.size w w' := by
  subst hn hL
  exact pages_call w base g v ps h
theorem same_n (w : World) (A0 A1 : Option Addr) (n c0 c1 : Nat) (l : List Int) (hl : n ≤ 8) (h0 : ReadsInt w .u32 A0 n l) (h1 : ReadsInt w .u32 A1 n l) :
    Calls Try.prog 24 #[.slice A0 n c0, .slice A1 n c1] w fun e w' => e = .returned (.bool true) ∧ ∃ m, w' = w.drewN m := by
  have := h0.1
  subst this
  exact same_call w A0 A1 c0 c1 l hl h0 h1
theorem idx_in (a : Int) (n : Nat) (hn : 0 < n) (h8 : n ≤ 8) : ∃ j : Nat, wrap64 ((IntKind.u64.wrap a).tmod (n : Int)) = (j : Int) ∧ j < n := by
  have h0 : 0 ≤ IntKind.u64.wrap a := by
    simp only [IntKind.wrap, IntKind.bits, IntKind.signed]
    exact Int.emod_nonneg _ (by decide)
  have e := Int.tmod_eq_emod_of_nonneg (b := (n : Int)) h0
  have h1 := Int.emod_nonneg (IntKind.u64.wrap a) (b := (n : Int)) (by omega)
  have h2 := Int.emod_lt_of_pos (IntKind.u64.wrap a) (b := (n : Int)) (by omega)
  refine ⟨((IntKind.u64.wrap a) % (n : Int)).toNat, ?_, by omega⟩
  rw [e, wrap64_in (by omega) (by omega)]
  omega
set_option maxRecDepth 100000 in
set_option maxHeartbeats 4000000 in
theorem twice_ok (A : Option Addr) (cap : Nat) (ys : List Int) (at_ entry : Int) (w : World) (hn : ys.length ≤ 60) (hy : ReadsInt w .u32 A ys.length ys) :
    Calls Try.prog 8 #[.slice A ys.length cap, .int .i64 at_, .int .u32 entry] w fun e w' => e = .returned (.bool true) ∧ Below w.heap.size w w' := by
  have HY := Aside0.mk hy
  clear hy
  go_enter Try.func8, Try.ntmps8
  go_wp2_with (first
    | (go_at_call 12; (with_reducible refine (alive_call _).mono ?_); rintro e w0 ⟨rfl, hb0⟩; have B0 := Aside0.mk hb0; clear hb0)
    | (go_at_call 13; (with_reducible refine (tnew_call _).mono ?_); rintro e w1 ⟨g, rfl, hr, hb⟩; have R1 := Aside0.mk (hr.lower B0.out.size); have B1 := Aside0.mk (below_step B0.out hb); clear hr hb))
  have L0 : TInv w w1 g 0 [] := ⟨B1.out, ⟨_, R1.out⟩, by simp, by simp⟩
  have LL := Aside0.mk L0
  clear L0 R1 B0 B1
  go_loopw [25] (fun i wr => ∃ (k : Nat) (ps : List (Int × Int)), k ≤ ys.length ∧ i = .int .i64 k ∧ Aside0 (TInv w wr g k ps)) (fun i _ => ys.length - (intOf i).toNat)
  case atStart => exact ⟨0, [], Nat.zero_le _, rfl, LL⟩
  case round =>
    obtain ⟨k, ps, hk, rfl, LI⟩ := hrel
    clear LL
    obtain ⟨v, hv⟩ := LI.out.2.1
    have T0 := Aside0.mk hv
    clear hv
    by_cases hkn : k = ys.length
    · subst hkn
      have hl8 := T0.out.2.2.2
      by_cases h0 : ps.length = 0
      · have hy0 : ys.length = 0 := LI.out.2.2.2.1 h0
        go_wp2_with (first
          | (go_at_call 21; (with_reducible refine (pages_call _ _ _ _ _ T0.out).mono ?_); rintro e w2 ⟨A1, c1, rfl, ho, hb⟩; have B2 := Aside0.mk (below_step LI.out.1 hb); clear ho hb))
        go_ret
        exact ⟨rfl, B2.out⟩
      · have hb0 : ((ps.length : Int) == 0) = false := beq_eq_false_iff_ne.mpr (by omega)
        obtain ⟨j, hj, hjl⟩ := idx_in at_ ps.length (by omega) hl8
        generalize hpe : (ps.getD j nil2).1 = p
        obtain ⟨x1, x2, x3, x4, x5, x6⟩ := twice_plain ps hl8 LI.out.2.2.1 j hjl entry p hpe.symm
        have X5 := Aside0.mk x5
        have X6 := Aside0.mk x6
        have L1 := Aside0.mk (show (putP p entry ps).length = ps.length from by have := congrArg List.length x3; rwa [List.length_map, List.length_map] at this)
        have X3 := Aside0.mk x3
        have hpj : (ps.map Prod.fst).getD j 0 = p := by
          rw [← hpe, List.getD_eq_getElem?_getD, List.getElem?_map, List.getElem?_eq_getElem hjl, List.getD_eq_getElem?_getD, List.getElem?_eq_getElem hjl]
          rfl
        have HPJ := Aside0.mk hpj
        clear hpj hpe x3 x5 x6
        go_wp2_with (first
          | (go_at_call 21; (with_reducible refine (pages_call _ _ _ _ _ T0.out).mono ?_); rintro e w2 ⟨A1, c1, rfl, ho, hb⟩; obtain ⟨ad1, rfl, hc1⟩ := (own_reads' ho).2.2 (by omega); have cx := hc1 j hjl; rw [HPJ.out] at cx; have B2 := Aside0.mk (below_step LI.out.1 hb); have T2 := Aside0.mk (T0.out.then hb); have O2 := Aside0.mk ho; clear ho hb hc1)
          | (go_at_call 14; (with_reducible refine (put_call _ _ _ _ _ _ _ T2.out).mono ?_); rintro e w3 ⟨rfl, v3, hr, hk3, hv3⟩; have T3 := Aside0.mk hr; have B3 := Aside0.mk (hk3.below B2.out T2.out.2.1 (fun b hb => (T2.out.row b hb).1)); have O3 := Aside0.mk (own_tlb O2.out T2.out hk3); clear hr hk3 hv3)
          | (go_at_call 15; (with_reducible refine (get_call _ _ _ _ _ p T3.out).mono ?_); rintro e w4 ⟨rfl, hb⟩; rw [x1, x2]; have T4 := Aside0.mk (T3.out.then hb); have O4 := Aside0.mk (own_then O3.out hb); have B4 := Aside0.mk (below_step B3.out hb); clear hb)
          | (go_at_call 21; (with_reducible refine (pages_n _ _ _ ps.length _ _ (ps.map Prod.fst) T4.out L1.out X3.out).mono ?_); rintro e w5 ⟨A5, c5, rfl, ho, hb⟩; have Q5 := Aside0.mk ho; have T5 := Aside0.mk (T4.out.then hb); have O5 := Aside0.mk (own_then O4.out hb); have B5 := Aside0.mk (below_step B4.out hb); clear hb; clear ho)
          | (go_at_call 24; (with_reducible refine (same_n _ _ _ _ _ _ (ps.map Prod.fst) hl8 (own_reads' Q5.out) (own_reads' O5.out)).mono ?_); rintro e w6 ⟨rfl, m6, rfl⟩; have T6 := Aside0.mk (T5.out.then (pw_below_drewN (Below.refl _ _) m6)); have B6 := Aside0.mk (below_step B5.out (pw_below_drewN (Below.refl _ _) m6)))
          | (go_at_call 25; (with_reducible refine (drop_call _ _ _ _ _ p T6.out).mono ?_); rintro e w7 ⟨rfl, v7, hr, hk7, hv7⟩; have T7 := Aside0.mk hr; have B7 := Aside0.mk (hk7.below B6.out T6.out.2.1 (fun b hb => (T6.out.row b hb).1)); clear hr hk7 hv7)
          | (go_at_call 15; (with_reducible refine (get_call _ _ _ _ _ p T7.out).mono ?_); rintro e w8 ⟨rfl, hb⟩; rw [x4]; have T8 := Aside0.mk (T7.out.then hb); have B8 := Aside0.mk (below_step B7.out hb); clear hb)
          | (go_at_call 14; (with_reducible refine (put_call _ _ _ _ _ _ _ T8.out).mono ?_); rintro e w9 ⟨rfl, v9, hr, hk9, hv9⟩; have T9 := Aside0.mk hr; have B9 := Aside0.mk (hk9.below B8.out T8.out.2.1 (fun b hb => (T8.out.row b hb).1)); clear hr hk9 hv9)
          | (go_at_call 21; (with_reducible refine (pages_n _ _ _ ps.length _ _ _ T9.out X5.out rfl).mono ?_); rintro e w10 ⟨A10, c10, rfl, ho, hb⟩; obtain ⟨ad10, rfl, hc10⟩ := (own_reads' ho).2.2 (by omega); have cz := hc10 (ps.length - 1) (by omega); rw [X6.out] at cz; have B10 := Aside0.mk (below_step B9.out hb); clear ho hb hc10))
        go_ret
        exact ⟨rfl, B10.out⟩
    · have hk' : k < ys.length := by omega
      obtain ⟨ad, rfl, hc⟩ := HY.out.2.2 (by omega)
      have cy := (LI.out.1.cell (p := ad.add k) (World.block_lt_of_cell? w _ (hc k hk'))).trans (hc k hk')
      clear hc
      generalize ys.getD k 0 = p at *
      go_wp2_with (first
        | (go_at_call 14; (with_reducible refine (put_call _ _ _ _ _ _ _ T0.out).mono ?_); rintro e w1 ⟨rfl, v1, hr, hk1, hv1⟩; have T1 := Aside0.mk hr; have B1 := Aside0.mk (hk1.below LI.out.1 T0.out.2.1 (fun b hb => (T0.out.row b hb).1)); clear hr hk1 hv1))
      go_roundw
      case rel => exact ⟨k + 1, putP p 1 ps, by omega, rfl, ⟨B1.out, ⟨v1, T1.out⟩, putP_nodup p 1 ps LI.out.2.2.1, ⟨fun h => absurd h (by have := putP_ne p 1 ps; omega), fun h => by omega⟩⟩⟩
      case measure => simp [intOf]; omega
theorem TlbTwice_walk (a0 : Option Addr) (len0 cap0 : Nat) (z0 : List Int) (a1 a2 : Int) (w : World) (w0 : IsRow .u32 w a0 len0 cap0 z0) (_ : len0 * 4 ≤ 140737488351232) (_ : (Lit.int .i64 a1).wf = true) (_ : (Lit.int .u32 a2).wf = true) :
    Calls Try.prog 8 #[.slice a0 len0 cap0, .int .i64 a1, .int .u32 a2] w fun e w' => e = .returned (.bool true) ∧ Below w.heap.size w w' := by
  obtain ⟨l, rfl, hr, hm, hw, hc⟩ := ReadsInt.ofRowC w0
  by_cases h : 60 < l.length
  · exact twice_long a0 l.length cap0 _ _ w h
  · exact twice_ok a0 cap0 l _ _ w (by omega) hr
end Go.Proofs.Ytocjadgakalbdaa.TlbWalk
