/- Changes of cycles that all differ may be added in any order: the walk of LinesOrder. -/
import Derived.Test.YtbgcbnlpjjhmhaaLinesJ
import Derived.Test.YtbgcbnlpjjhmhaaLinesS
namespace Go.Proofs.Ytbgcbnlpjjhmhaa.LinesWalk
open Go.RowKit Go.Proofs.Ytbgcbnlpjjhmhaa.Aid Go.Proofs.YtbgcbnlpjjhmhaaW.PrintWords Go.Proofs.YtbgcbnlpjjhmhaaW.PrintLast Go.Proofs.YtbgcbnlpjjhmhaaW.PrintMore Go.Proofs.Ytbgcbnlpjjhmhaa.HeapLaw
attribute [local go_sem] max2_int min2_int max_two min_two max_three min_three max_four min_four   -- for this text's walks alone
set_option linter.unusedVariables false
set_option linter.unusedSimpArgs false
/-- Two lines. -/
def Duo (w wr : World) (g1 g2 : Nat) (s1 s2 : St) : Prop :=
  Below w.heap.size w wr ∧ g1 ≠ g2 ∧ ∃ v1 v2, LAt wr w.heap.size g1 v1 s1 ∧ LAt wr w.heap.size g2 v2 s2 ∧ NeRow v1 v2
theorem Duo.swap {w wr : World} {g1 g2 : Nat} {s1 s2 : St} (h : Duo w wr g1 g2 s1 s2) : Duo w wr g2 g1 s2 s1 := by
  obtain ⟨h0, h1, v1, v2, t1, t2, n1⟩ := h
  exact ⟨h0, h1.symm, v2, v1, t2, t1, ne_symm n1⟩
theorem Duo.then {w wr wr' : World} {g1 g2 : Nat} {s1 s2 : St} (h : Duo w wr g1 g2 s1 s2) (b : Below wr.heap.size wr wr') : Duo w wr' g1 g2 s1 s2 := by
  obtain ⟨h0, h1, v1, v2, t1, t2, n1⟩ := h
  exact ⟨below_step h0 b, h1, v1, v2, t1.then b, t2.then b, n1⟩
theorem duo_add (w wr : World) (g1 g2 : Nat) (s1 s2 : St) (cy lv : Int) (on : Bool) (h : Duo w wr g1 g2 s1 s2) (hn : s1.nums < 1000000) :
    Calls Try.prog 23 #[.pointer (some ⟨g1, 0, none⟩), .agg #[.int .i64 cy, .int .i64 lv, .bool on]] wr fun e w' => e = .returned (.int .i64 (addE s1 cy lv)) ∧ Duo w w' g1 g2 (addS s1 cy lv on) s2 := by
  obtain ⟨h0, h1, v1, v2, t1, t2, n1⟩ := h
  refine (ladd_call wr w.heap.size g1 v1 s1 cy lv on t1 hn).mono fun e w' ⟨he, p⟩ => ⟨he, ?_⟩
  have b := p.below t1 h0
  obtain ⟨v1', l1, k1, nr⟩ := p
  exact ⟨b, h1, v1', v2, l1, t2.other t1 k1 h1.symm n1, ne_new n1 nr t2⟩
theorem duo_at (w wr : World) (g1 g2 : Nat) (s1 s2 : St) (c : Int) (h : Duo w wr g1 g2 s1 s2) :
    Calls Try.prog 25 #[.pointer (some ⟨g1, 0, none⟩), .int .i64 c] wr fun e w' => e = .returned (.int .u32 (onN (atS s1 c).on 32 : Nat)) ∧ Duo w w' g1 g2 (atS s1 c) s2 := by
  obtain ⟨h0, h1, v1, v2, t1, t2, n1⟩ := h
  refine (lat_call wr w.heap.size g1 v1 s1 c t1).mono fun e w' ⟨he, p⟩ => ⟨he, ?_⟩
  have b := p.below t1 h0
  obtain ⟨v1', l1, k1, nr⟩ := p
  exact ⟨b, h1, v1', v2, l1, t2.other t1 k1 h1.symm n1, ne_new n1 nr t2⟩
theorem duo_waits (w wr : World) (g1 g2 : Nat) (s1 s2 : St) (h : Duo w wr g1 g2 s1 s2) :
    Calls Try.prog 27 #[.pointer (some ⟨g1, 0, none⟩)] wr fun e w' => e = .returned (.int .i64 s1.xs.length) ∧ wr = w' := by
  obtain ⟨h0, h1, v1, v2, t1, _⟩ := h
  exact waits_call wr w.heap.size g1 v1 s1 t1
theorem duo_new (w wr w1 w2 : World) (g1 g2 : Nat) (b0 : Below w.heap.size w wr) (h1 : LAt w1 wr.heap.size g1 (.slice none 0 0) St.new) (b1 : Below wr.heap.size wr w1) (h2 : LAt w2 w1.heap.size g2 (.slice none 0 0) St.new) (b2 : Below w1.heap.size w1 w2) :
    Duo w w2 g1 g2 St.new St.new := by
  have lo : ∀ {W : World} {b b' g : Nat} {v : Value} {s : St}, LAt W b g v s → b' ≤ b → LAt W b' g v s := fun h hb => by
    obtain ⟨q, k1, k2⟩ := h
    exact ⟨q, ⟨k1.blk, Nat.le_trans hb k1.ge, own_less k1.row hb, k1.len⟩, k2⟩
  have l1 := h1.lt
  have k2 := h2.ge
  exact ⟨below_step (below_step b0 b1) b2, by omega, _, _, lo (h1.then b2) b0.size, lo h2 (Nat.le_trans b0.size b1.size), ne_nil _⟩
theorem order_off (A0 : Option Addr) (n c0 : Nat) (t : Int) (w : World) (h : 60 < n ∨ n = 0) :
    Calls Try.prog 5 #[.slice A0 n c0, .int .i64 t] w fun e w' => e = .returned (.bool true) ∧ Below w.heap.size w w' := by
  have A := Aside0.mk alive_call
  rcases h with h | rfl
  · go_enter Try.func5, Try.ntmps5
    go_wp2_with (first | (go_at_call 21; (with_reducible refine (A.out _).mono ?_); rintro e w1 ⟨rfl, hb⟩))
    go_ret
    exact ⟨rfl, hb⟩
  · go_enter Try.func5, Try.ntmps5
    go_wp2_with (first | (go_at_call 21; (with_reducible refine (A.out _).mono ?_); rintro e w1 ⟨rfl, hb⟩))
    go_ret
    exact ⟨rfl, hb⟩
set_option maxRecDepth 100000 in
set_option maxHeartbeats 8000000 in
theorem order_ok (A0 : Option Addr) (n c0 : Nat) (t : Int) (w : World) (hn0 : 0 < n) (hn : n ≤ 60) (hcap : n ≤ c0) (ht : (Lit.int .i64 t).wf = true) (es : List (Int × Int × Bool)) (he : es.length = n) (r0 : EvRow w A0 es) :
    Calls Try.prog 5 #[.slice A0 n c0, .int .i64 t] w fun e w' => e = .returned (.bool true) ∧ Below w.heap.size w w' := by
  have A := Aside0.mk alive_call
  have HE := Aside0.mk he
  obtain ⟨b, off, rfl, hbl, hc⟩ := r0 (by omega)
  have HC : Aside0 (∀ W, Below w.heap.size w W → ∀ i, i < n → W.cell? ⟨b, off + i * 3, none⟩ = some (.int .i64 (es.getD i (0, 0, false)).1) ∧ W.cell? ⟨b, off + i * 3 + 1, none⟩ = some (.int .i64 (es.getD i (0, 0, false)).2.1) ∧ W.cell? ⟨b, off + i * 3 + 2, none⟩ = some (.bool (es.getD i (0, 0, false)).2.2)) := ⟨fun W h i hi => by
    obtain ⟨z0, z1, z2⟩ := hc i (by omega)
    exact ⟨(h.cell (p := ⟨b, off + i * 3, none⟩) hbl).trans z0, (h.cell (p := ⟨b, off + i * 3 + 1, none⟩) hbl).trans z1, (h.cell (p := ⟨b, off + i * 3 + 2, none⟩) hbl).trans z2⟩⟩
  clear r0 he hc hbl
  have hn00 : ((n : Int) == 0) = false := beq_eq_false_iff_ne.mpr (by omega)
  go_enter Try.func5, Try.ntmps5
  go_wp2_with (first
    | (go_at_call 21; (with_reducible refine (A.out w).mono ?_); rintro e w0 ⟨rfl, hb⟩; have B0 := Aside0.mk hb; clear hb))
  go_loopw [27] (fun iv wr => ∃ k : Nat, k ≤ n ∧ iv = .int .i64 k ∧ Aside0 (Below w.heap.size w wr ∧ ∀ i j, i < k → j < i → (es.getD i (0, 0, false)).1 ≠ (es.getD j (0, 0, false)).1)) (fun iv _ => n - (intOf iv).toNat)
  case atStart => exact ⟨0, Nat.zero_le _, rfl, ⟨B0.out, fun i j h _ => absurd h (Nat.not_lt_zero _)⟩⟩
  case round =>
    obtain ⟨k, hk, rfl, T⟩ := hrel
    clear B0
    by_cases hkn : k = n
    · have HD : Aside0 ((es.map Prod.fst).Nodup) := ⟨by
        rw [List.nodup_iff_pairwise_ne, List.pairwise_iff_getElem]
        intro i j hi hj hij e
        rw [List.length_map] at hi hj
        rw [List.getElem_map, List.getElem_map] at e
        have := T.out.2 j i (by have := HE.out; omega) hij
        rw [List.getD_eq_getElem?_getD, List.getD_eq_getElem?_getD, List.getElem?_eq_getElem hi, List.getElem?_eq_getElem hj] at this
        exact this e.symm⟩
      have BB := Aside0.mk T.out.1
      clear T
      subst hkn
      have htb := i64_bounds ht
      go_wp2_with (first
        | (go_at_call 22; (with_reducible refine (lnew_call wr).mono ?_); rintro e w1 ⟨g1, rfl, hr, hb⟩; have L1 := Aside0.mk hr; have B1 := Aside0.mk hb; clear hr hb)
        | (go_at_call 22; (with_reducible refine (lnew_call w1).mono ?_); rintro e w2 ⟨g2, rfl, hr, hb⟩; have D2 := Aside0.mk (duo_new w _ _ _ _ _ BB.out L1.out B1.out hr hb); clear hr hb))
      obtain ⟨kk, hkk, hkl⟩ : ∃ kk : Nat, wrap64 ((IntKind.u64.wrap t).tmod (k : Int)) = (kk : Int) ∧ kk < k := by
        have e1 : IntKind.u64.wrap t = (((t % 18446744073709551616).toNat : Nat) : Int) := by
          show t % 18446744073709551616 = _
          omega
        refine ⟨(t % 18446744073709551616).toNat % k, ?_, Nat.mod_lt _ hn0⟩
        rw [e1, tmod_nat]
        have := Nat.mod_lt (t % 18446744073709551616).toNat hn0
        exact wrap64_in (by omega) (by omega)
      rw [hkk]
      clear hkk htb
      have hkl2 : (kk : Int) < k := by omega
      have hkl0 : (0 : Int) ≤ kk := by omega
      go_loopw [57] (fun iv wq => ∃ i : Nat, i ≤ k ∧ iv = .int .i64 i ∧ Aside0 (Duo w wq g1 g2 (addK St.new es i) (addK St.new (turnL es kk) i))) (fun iv _ => k - (intOf iv).toNat)
      case atStart => exact ⟨0, Nat.zero_le _, rfl, D2⟩
      case round =>
        obtain ⟨i, hi, rfl, D⟩ := hrel
        clear D2 L1 B1
        by_cases hik : i = k
        · have AL := Aside0.mk (show Alike2 (addK St.new es i) (addK St.new (turnL es kk) i) by
            have h1 : addK St.new es i = addAll St.new es := by unfold addK; rw [hik, ← HE.out, List.take_length]
            have h2 : addK St.new (turnL es kk) i = addAll St.new (turnL es kk) := by
              have : (turnL es kk).length = k := by unfold turnL; rw [List.length_map, List.length_range, HE.out]
              unfold addK; rw [hik, ← this, List.take_length]
            rw [h1, h2]
            exact alike_add es _ (by have := HE.out; omega) (turn_perm es kk (by have := HE.out; omega)) HD.out)
          subst hik
          generalize addK St.new es i = s at *
          generalize addK St.new (turnL es kk) i = u at *
          go_wp2_with fail
          go_loopw [14] (fun cv wq => ∃ (c : Nat) (s u : St), c ≤ 100 ∧ cv = .int .i64 c ∧ Aside0 (Duo w wq g1 g2 s u ∧ Alike2 s u)) (fun cv _ => 100 - (intOf cv).toNat)
          case atStart => exact ⟨0, s, u, by omega, rfl, ⟨D.out, AL.out⟩⟩
          case round =>
            obtain ⟨c, s, u, hc, rfl, E⟩ := hrel
            clear D AL
            by_cases hc100 : c = 100
            · subst hc100
              have EL := Aside0.mk E.out.2.on.2
              go_wp2_with (first
                | (go_at_call 27; (with_reducible refine (duo_waits _ _ _ _ _ _ E.out.1).mono ?_); rintro e w8 ⟨rfl, rfl⟩; rw [EL.out])
                | (go_at_call 27; (with_reducible refine (duo_waits _ _ _ _ _ _ E.out.1.swap).mono ?_); rintro e w8 ⟨rfl, rfl⟩))
              go_ret
              exact ⟨by simp, E.out.1.1⟩
            · have hc1 : c < 100 := by omega
              have EO := Aside0.mk (E.out.2.at (c : Int)).on.1
              have EA := Aside0.mk (E.out.2.at (c : Int))
              go_wp2_with (first
                | (go_at_call 25; (with_reducible refine (duo_at _ _ _ _ _ _ _ E.out.1).mono ?_); rintro e w8 ⟨rfl, hp⟩; have E8 := Aside0.mk hp; clear hp; rw [EO.out])
                | (go_at_call 25; (with_reducible refine (duo_at _ _ _ _ _ _ _ E8.out.swap).mono ?_); rintro e w9 ⟨rfl, hp⟩; have E9 := Aside0.mk hp.swap; clear hp))
              go_roundw
              case rel => exact ⟨c + 1, _, _, hc1, by go_num, ⟨E9.out, EA.out⟩⟩
              case measure => simp [intOf]; omega
        · have hi' : i < k := by omega
          obtain ⟨d0, d1, d2⟩ := HC.out wr D.out.1 i hi'
          obtain ⟨dd, hdd⟩ : ∃ dd : Nat, dd = k - 1 - (i + kk) % k := ⟨_, rfl⟩
          have hdl : dd < k := by omega
          have hdi : (k : Int) - 1 - ((i : Int) + kk) % k = dd := by
            have h1 : (((i + kk) % k : Nat) : Int) = ((i : Int) + kk) % k := by simp
            have h2 := Nat.mod_lt (i + kk) hn0
            rw [← h1]; omega
          have hik0 : (0 : Int) ≤ (i : Int) + kk := by omega
          have hik1 : (i : Int) + kk ≤ 200 := by omega
          have hdd0 : (dd : Int) < k := by omega
          have NX1 := Aside0.mk (addK_next St.new es i (by have := HE.out; omega))
          have NN1 : Aside0 ((addK St.new es i).nums < 1000000) := ⟨by have := addK_nums St.new es i (by have := HE.out; omega); have e : St.new.nums = 0 := rfl; omega⟩
          have htl : (turnL es kk).length = k := by unfold turnL; rw [List.length_map, List.length_range, HE.out]
          have htg : (turnL es kk).getD i (0, 0, false) = es.getD dd (0, 0, false) := by
            unfold turnL
            rw [List.getD_eq_getElem?_getD, List.getElem?_map, List.getElem?_range (by have := HE.out; omega), hdd, HE.out]
            rfl
          have nx2 := addK_next St.new (turnL es kk) i (by omega)
          rw [htg] at nx2
          have NX2 := Aside0.mk nx2
          have NN2 : Aside0 ((addK St.new (turnL es kk) i).nums < 1000000) := ⟨by have := addK_nums St.new (turnL es kk) i (by omega); have e : St.new.nums = 0 := rfl; omega⟩
          have XD := Aside0.mk (fun W h => HC.out W h dd hdl)
          clear hdd htl htg nx2
          generalize (es.getD i (0, 0, false)).1 = y0 at *
          generalize (es.getD i (0, 0, false)).2.1 = y1 at *
          generalize (es.getD i (0, 0, false)).2.2 = y2 at *
          generalize (es.getD dd (0, 0, false)).1 = x0 at *
          generalize (es.getD dd (0, 0, false)).2.1 = x1 at *
          generalize (es.getD dd (0, 0, false)).2.2 = x2 at *
          go_wp2_with (first
            | (go_at_call 23; (with_reducible refine (duo_add _ _ _ _ _ _ y0 y1 y2 D.out NN1.out).mono ?_); rintro e w4 ⟨rfl, hp⟩; have D4 := Aside0.mk hp; obtain ⟨z0, z1, z2⟩ := XD.out _ hp.1; clear hp)
            | (go_at_call 23; (with_reducible refine (duo_add _ _ _ _ _ _ x0 x1 x2 D4.out.swap NN2.out).mono ?_); rintro e w5 ⟨rfl, hp⟩; have D5 := Aside0.mk hp.swap; clear hp))
          go_roundw
          case rel => exact ⟨i + 1, hi', by go_num, ⟨by rw [NX1.out, NX2.out]; exact D5.out⟩⟩
          case measure => simp [intOf]; omega
    · have hkn' : k < n := by omega
      obtain ⟨d0, d1, d2⟩ := HC.out wr T.out.1 k hkn'
      have hkc : (k : Int) ≤ c0 := by omega
      have CY := Aside0.mk (show ∃ x, x = (es.getD k (0, 0, false)).1 from ⟨_, rfl⟩)
      obtain ⟨wo, rfl⟩ : ∃ wo : World, wo = wr := ⟨_, rfl⟩
      generalize hy0 : (es.getD k (0, 0, false)).1 = y0 at *
      have HY := Aside0.mk hy0
      clear hy0 CY
      generalize (es.getD k (0, 0, false)).2.1 = y1 at *
      generalize (es.getD k (0, 0, false)).2.2 = y2 at *
      go_wp2_with fail
      go_loopw [36] (fun jv wq => ∃ j : Nat, j ≤ k ∧ jv = .int .i64 j ∧ Aside0 (Below w.heap.size w wq ∧ wq.heap[wo.heap.size]? = some (.cells #[.int .i64 y0, .int .i64 y1, .bool y2] 47 (0, 0)) ∧ ∀ j', j' < j → y0 ≠ (es.getD j' (0, 0, false)).1)) (fun jv _ => k - (intOf jv).toNat)
      case atStart => exact ⟨0, Nat.zero_le _, rfl, ⟨below_alloc T.out.1 _, blk_new _ _, fun j h => absurd h (Nat.not_lt_zero _)⟩⟩
      case round =>
        obtain ⟨j, hj, rfl, T2⟩ := hrel
        by_cases hjk : j = k
        · subst hjk
          go_wp2
          go_roundw
          case rel => exact ⟨j + 1, hkn', by go_num, ⟨T2.out.1, fun i j' hi hj' => by
            by_cases hij : i = j
            · subst hij; rw [HY.out]; exact T2.out.2.2 j' hj'
            · exact T.out.2 i j' (by omega) hj'⟩⟩
          case measure => simp [intOf]; omega
        · have hj' : j < k := by omega
          obtain ⟨f0, f1, f2⟩ := HC.out wr T2.out.1 j (by omega)
          have bx : ∀ o, (wr.alloc o).cell? ⟨wo.heap.size, 0, none⟩ = some (.int .i64 y0) := fun o => ((below_alloc (Below.refl wr.heap.size wr) o).cell (p := ⟨wo.heap.size, 0, none⟩) (Array.getElem?_eq_some_iff.1 T2.out.2.1).1).trans (cell_of_row _ _ 0 _ _ _ T2.out.2.1)
          have T3 : Aside0 (∀ o, Below w.heap.size w (wr.alloc o) ∧ (wr.alloc o).heap[wo.heap.size]? = some (.cells #[.int .i64 y0, .int .i64 y1, .bool y2] 47 (0, 0))) := ⟨fun o => ⟨below_alloc T2.out.1 o, ((below_alloc (Below.refl wr.heap.size wr) o).block _ (Array.getElem?_eq_some_iff.1 T2.out.2.1).1).trans T2.out.2.1⟩⟩
          have T4 := Aside0.mk T2.out.2.2
          clear T2 d0 d1 d2 T
          generalize wo.heap.size = gx at *
          generalize hz0 : (es.getD j (0, 0, false)).1 = z0 at *
          have HZ := Aside0.mk hz0
          clear hz0
          generalize (es.getD j (0, 0, false)).2.1 = z1 at *
          generalize (es.getD j (0, 0, false)).2.2 = z2 at *
          by_cases hq : y0 = z0
          · have e1 : (y0 == z0) = true := beq_iff_eq.2 hq
            clear hq
            go_wp2
            go_ret
            exact ⟨rfl, (T3.out _).1⟩
          · have e1 : (y0 == z0) = false := beq_eq_false_iff_ne.2 hq
            have HQ := Aside0.mk hq
            clear hq
            go_wp2
            go_roundw
            case rel => exact ⟨j + 1, hj', by go_num, ⟨(T3.out _).1, (T3.out _).2, fun j' h => by
              by_cases e : j' = j
              · subst e; rw [HZ.out]; exact HQ.out
              · exact T4.out j' (by omega)⟩⟩
            case measure => simp [intOf]; omega
theorem LinesOrder_walk (a0 : Option Addr) (len0 cap0 : Nat) (t : Int) (w : World) (w0 : IsRow3 (IntV .i64) (IntV .i64) BoolV w a0 len0 cap0) (wt : (Lit.int .i64 t).wf = true) :
    Calls Try.prog 5 #[.slice a0 len0 cap0, .int .i64 t] w fun e w' => e = .returned (.bool true) ∧ Below w.heap.size w w' := by
  by_cases h : 60 < len0 ∨ len0 = 0
  · exact order_off a0 len0 cap0 t w h
  · obtain ⟨es, he, r0⟩ := evRow w0
    exact order_ok a0 len0 cap0 t w (by omega) (by omega) w0.1 wt es he r0
end Go.Proofs.Ytbgcbnlpjjhmhaa.LinesWalk
