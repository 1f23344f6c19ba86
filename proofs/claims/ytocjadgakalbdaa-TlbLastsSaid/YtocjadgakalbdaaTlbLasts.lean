/- What was put is got as long as fewer than eight others were put since; behind eight it isn't: the walk of TlbLasts. -/
import Derived.Test.YtocjadgakalbdaaTlbE
import Derived.Test.YtocjadgakalbdaaWSized
namespace Go.Proofs.YtocjadgakalbdaaW.PrintWords
open Go.RowKit in
def IsRow (k : IntKind) (w : World) (a : Option Addr) (len cap : Nat) (zs : List Int) : Prop :=
  (a = none ∧ len = 0 ∧ cap = 0 ∧ zs = []) ∨
  ∃ x, a = some x ∧ len ≤ cap ∧ cap ≤ maxLen ∧ zs.length = cap ∧ (∀ i, i < zs.length → w.cell? (x.add i) = some (.int k (zs.getD i 0))) ∧ ∀ n ∈ zs, (Lit.int k n).wf = true
end Go.Proofs.YtocjadgakalbdaaW.PrintWords
namespace Go.Proofs.Ytocjadgakalbdaa.TlbWalk
open Go.RowKit Go.Proofs.Ytocjadgakalbdaa.Aid Go.Proofs.YtocjadgakalbdaaW.PrintWords Go.Proofs.YtocjadgakalbdaaW.PrintLast Go.Proofs.YtocjadgakalbdaaW.PrintMore
attribute [local go_sem] max2_int min2_int max_two min_two max_three min_three max_four min_four   -- for this text's walks alone
set_option linter.unusedVariables false
set_option linter.unusedSimpArgs false

/-- The buffer behind a page and others. -/
def lastP (page entry : Int) (seen : List Int) : List (Int × Int) := (page, entry) :: seen.map fun p => (p, (entry + 1) % 4294967296)
theorem posP_map (p e : Int) : ∀ seen : List Int, p ∈ seen → posP p (seen.map fun q => (q, e)) < seen.length
  | [], h => by simp at h
  | q :: seen, h => by
    rw [List.map_cons]
    unfold posP
    by_cases hq : q = p
    · rw [if_pos hq]; simp
    · rw [if_neg hq]
      have := posP_map p e seen ((List.mem_cons.1 h).resolve_left (fun e => hq e.symm))
      rw [List.length_cons]; omega
theorem posP_not (p : Int) : ∀ ps : List (Int × Int), (∀ q ∈ ps, q.1 ≠ p) → posP p ps = ps.length
  | [], _ => rfl
  | q :: ps, h => by
    unfold posP
    rw [if_neg (h q List.mem_cons_self), posP_not p ps (fun x hx => h x (List.mem_cons_of_mem _ hx)), List.length_cons]
theorem set_map (p e : Int) : ∀ seen : List Int, p ∈ seen → (seen.map fun q => (q, e)).set (posP p (seen.map fun q => (q, e))) (p, e) = seen.map fun q => (q, e)
  | [], h => by simp at h
  | q :: seen, h => by
    rw [List.map_cons]
    unfold posP
    by_cases hq : q = p
    · subst hq; rw [if_pos rfl, List.set_cons_zero]
    · rw [if_neg hq, List.set_cons_succ, set_map p e seen ((List.mem_cons.1 h).resolve_left (fun e => hq e.symm))]
theorem last_known (page entry p : Int) (seen : List Int) (hp : p ≠ page) (h : p ∈ seen) : putP p ((entry + 1) % 4294967296) (lastP page entry seen) = lastP page entry seen := by
  unfold putP lastP
  have hl := posP_map p ((entry + 1) % 4294967296) seen h
  have e : posP p ((page, entry) :: seen.map fun q => (q, (entry + 1) % 4294967296)) = posP p (seen.map fun q => (q, (entry + 1) % 4294967296)) + 1 := by
    rw [posP, if_neg (fun e => hp e.symm)]
  rw [e, if_pos (by rw [List.length_cons, List.length_map]; omega), List.set_cons_succ, set_map p _ seen h]
theorem last_new (page entry p : Int) (seen : List Int) (hp : p ≠ page) (h : p ∉ seen) (h7 : seen.length < 7) : putP p ((entry + 1) % 4294967296) (lastP page entry seen) = lastP page entry (seen ++ [p]) := by
  unfold putP lastP
  have e : posP p ((page, entry) :: seen.map fun q => (q, (entry + 1) % 4294967296)) = ((page, entry) :: seen.map fun q => (q, (entry + 1) % 4294967296)).length := by
    refine posP_not p _ fun q hq => ?_
    rcases List.mem_cons.1 hq with rfl | hq
    · exact fun e => hp e.symm
    · obtain ⟨x, hx, rfl⟩ := List.mem_map.1 hq
      exact fun e => h (e ▸ hx)
  rw [e, if_neg (Nat.lt_irrefl _), if_neg (by rw [List.length_cons, List.length_map]; omega), List.cons_append, List.map_append]
  rfl
theorem last_out (page entry p : Int) (seen : List Int) (hp : p ≠ page) (h : p ∉ seen) (hs : page ∉ seen) (h7 : seen.length = 7) : ¬ posP page (putP p ((entry + 1) % 4294967296) (lastP page entry seen)) < (putP p ((entry + 1) % 4294967296) (lastP page entry seen)).length := by
  have e : posP p (lastP page entry seen) = (lastP page entry seen).length := by
    refine posP_not p _ fun q hq => ?_
    rcases List.mem_cons.1 hq with rfl | hq
    · exact fun e => hp e.symm
    · obtain ⟨x, hx, rfl⟩ := List.mem_map.1 hq
      exact fun e => h (e ▸ hx)
  have e2 : putP p ((entry + 1) % 4294967296) (lastP page entry seen) = (seen.map fun q => (q, (entry + 1) % 4294967296)) ++ [(p, (entry + 1) % 4294967296)] := by
    unfold putP
    rw [e, if_neg (Nat.lt_irrefl _), if_pos (by unfold lastP; rw [List.length_cons, List.length_map]; omega)]
    rfl
  rw [e2, posP_not page _ (fun q hq => ?_)]
  · exact Nat.lt_irrefl _
  · rcases List.mem_append.1 hq with hq | hq
    · obtain ⟨x, hx, rfl⟩ := List.mem_map.1 hq
      exact fun e => hs (e ▸ hx)
    · simp only [List.mem_cons, List.not_mem_nil, or_false] at hq
      rw [hq]; exact hp
theorem last_pos (page entry : Int) (seen : List Int) : posP page (lastP page entry seen) = 0 := by
  unfold lastP posP
  rw [if_pos rfl]
theorem last_ent (page entry : Int) (seen : List Int) : entP page (lastP page entry seen) = entry := by
  unfold entP
  rw [last_pos, if_pos (by unfold lastP; rw [List.length_cons]; omega)]
  rfl

theorem own_kept2 {w w' : World} {base e s n g : Nat} {o : Value} {xs : List Value} {row : Option Nat} (h : w.ownsRow base e s o n xs) (k : Kept2 w w' g row) (h1 : o.ownBlock ≠ some g) (h2 : o.ownBlock = none ∨ o.ownBlock ≠ row) : w'.ownsRow base e s o n xs := by
  refine ⟨h.1, ?_⟩
  rcases h.2 with h' | ⟨b, c, cur, rfl, hb, hh, r⟩
  · exact .inl h'
  · refine .inr ⟨b, c, cur, rfl, hb, ?_, r⟩
    refine (k.block b (Array.getElem?_eq_some_iff.1 hh).1 (fun e => h1 (by rw [e]; rfl)) ?_).trans hh
    rcases h2 with h2 | h2
    · simp [Value.ownBlock] at h2
    · exact h2
theorem own_not_g {w : World} {base base' s n g : Nat} {o v : Value} {xs : List Value} {ps : List (Int × Int)} (h : w.ownsRow base 22 s o n xs) (t : TlbAt w base' g v ps) : o.ownBlock ≠ some g := by
  intro e
  rcases h.2 with ⟨rfl, _⟩ | ⟨b, c, cur, rfl, hb, hh, r⟩
  · simp [Value.ownBlock] at e
  · simp only [Value.ownBlock, Option.some.injEq] at e
    subst e
    rw [t.1] at hh
    simp at hh
theorem own_none {w : World} {base e s n : Nat} {o : Value} {xs : List Value} (_ : w.ownsRow base e s o n xs) : o.ownBlock = none ∨ o.ownBlock ≠ none := by
  cases o.ownBlock with
  | none => exact .inl rfl
  | some b => exact .inr (by simp)
theorem take_mem (l : List Int) (j : Nat) (hj : j < l.length) (p : Int) : p ∈ l.take (j + 1) ↔ (p ∈ l.take j ∨ p = l.getD j 0) := by
  have : l.take (j + 1) = l.take j ++ [l.getD j 0] := by
    rw [List.take_add_one, List.getElem?_eq_getElem hj, List.getD_eq_getElem?_getD, List.getElem?_eq_getElem hj]
    rfl
  rw [this, List.mem_append, List.mem_singleton]
/-- The law's loop: the buffer and the pages that were seen. -/
def LInv (w wr : World) (g : Nat) (page entry : Int) (o : Value) (seen : List Int) : Prop :=
  Below w.heap.size w wr ∧ (∃ v, TlbAt wr w.heap.size g v (lastP page entry seen)) ∧ wr.ownsRow w.heap.size 22 1 o seen.length (nums .u32 seen) ∧ seen.length ≤ 7 ∧ page ∉ seen
theorem lasts_long (page entry : Int) (A : Option Addr) (n cap : Nat) (w : World) (h : 60 < n) :
    Calls Try.prog 3 #[.int .u32 page, .int .u32 entry, .slice A n cap] w fun e w' => e = .returned (.bool true) ∧ Below w.heap.size w w' := by
  go_enter Try.func3, Try.ntmps3
  go_wp2_with (first
    | (go_at_call 12; (with_reducible refine (alive_call _).mono ?_); rintro e w0 ⟨rfl, hb0⟩; have B0 := Aside0.mk hb0; clear hb0))
  go_ret
  exact ⟨rfl, B0.out⟩

set_option maxRecDepth 100000 in
set_option maxHeartbeats 4000000 in
theorem lasts_ok (page entry : Int) (A : Option Addr) (cap : Nat) (ys : List Int) (w : World) (hn : ys.length ≤ 60) (he0 : 0 ≤ entry) (he : entry < 4294967296) (hy : ReadsInt w .u32 A ys.length ys) :
    Calls Try.prog 3 #[.int .u32 page, .int .u32 entry, .slice A ys.length cap] w fun e w' => e = .returned (.bool true) ∧ Below w.heap.size w w' := by
  have HY := Aside0.mk hy
  clear hy
  go_enter Try.func3, Try.ntmps3
  go_wp2_with (first
    | (go_at_call 12; (with_reducible refine (alive_call _).mono ?_); rintro e w0 ⟨rfl, hb0⟩; have B0 := Aside0.mk hb0; clear hb0)
    | (go_at_call 13; (with_reducible refine (tnew_call _).mono ?_); rintro e w1 ⟨g, rfl, hr, hb⟩; have R1 := Aside0.mk (hr.lower B0.out.size); have B1 := Aside0.mk (below_step B0.out hb); clear hr hb)
    | (go_at_call 14; (with_reducible refine (put_call _ _ _ _ _ _ _ R1.out).mono ?_); rintro e w2 ⟨rfl, v2, hr, hk, hv⟩; have R2 := Aside0.mk hr; have B2 := Aside0.mk (hk.below B1.out R1.out.2.1 (fun k hk => by simp [Value.ownBlock] at hk)); clear hr hk hv))
  have L0 : LInv w w2 g page entry (.slice none 0 0) [] := ⟨B2.out, ⟨v2, R2.out⟩, World.ownsRow_nil _ _ _ _, by decide, by simp⟩
  have LL := Aside0.mk L0
  clear L0 R1 R2 B0 B1 B2
  go_loopw [8, 28] (fun o i wr => ∃ (k : Nat) (seen : List Int), k ≤ ys.length ∧ i = .int .i64 k ∧ Aside0 (LInv w wr g page entry o seen)) (fun _ i _ => ys.length - (intOf i).toNat)
  case atStart => exact ⟨0, [], Nat.zero_le _, rfl, LL⟩
  case round =>
    obtain ⟨k, seen, hk, rfl, LI⟩ := hrel
    clear LL
    obtain ⟨A1, c1, rfl⟩ := own_val LI.out.2.2.1
    by_cases hkn : k = ys.length
    · have B := Aside0.mk LI.out.1
      go_wp2
      go_ret
      exact ⟨rfl, B.out⟩
    · have hk' : k < ys.length := by omega
      obtain ⟨ad, rfl, hc⟩ := HY.out.2.2 (by omega)
      have cy := (LI.out.1.cell (p := ad.add k) (by
        have := World.block_lt_of_cell? w _ (hc k hk')
        exact this)).trans (hc k hk')
      clear hc
      generalize ys.getD k 0 = p at *
      by_cases hp : p = page
      · subst hp
        go_wp2
        go_roundw
        case rel => exact ⟨k + 1, seen, by omega, rfl, LI⟩
        case measure => simp [intOf]; omega
      · have hpb : (p == page) = false := beq_eq_false_iff_ne.mpr hp
        obtain ⟨v, hv⟩ := LI.out.2.1
        have T0 := Aside0.mk hv
        clear hv
        have hs7 := LI.out.2.2.2.1
        go_wp2_with (first
          | (go_at_call 14; (with_reducible refine (put_call _ _ _ _ _ _ _ T0.out).mono ?_); rintro e w1 ⟨rfl, v1, hr, hk1, hv1⟩; have T1 := Aside0.mk hr; have B1 := Aside0.mk (hk1.below LI.out.1 T0.out.2.1 (fun b hb => (T0.out.row b hb).1)); have O1 := Aside0.mk (own_kept2 LI.out.2.2.1 hk1 (own_not_g LI.out.2.2.1 T0.out) (own_type_ne LI.out.2.2.1 T0.out.own (by decide))); clear hr hk1 hv1))
        have RD := Aside0.mk (own_reads' O1.out)
        go_loopw [11, 42] (fun kn i wr2 => ∃ j : Nat, j ≤ seen.length ∧ i = .int .i64 j ∧ kn = .bool (decide (p ∈ seen.take j)) ∧ w1 = wr2) (fun _ i _ => seen.length - (intOf i).toNat)
        case atStart => exact ⟨0, Nat.zero_le _, rfl, by simp, rfl⟩
        case round =>
          obtain ⟨j, hj, rfl, rfl, rfl⟩ := hrel
          by_cases hjn : j = seen.length
          · subst hjn
            rw [List.take_length]
            have h8 : ((seen.length : Int) < 8) := by omega
            by_cases hm : p ∈ seen
            · rw [decide_eq_true hm]
              have TN := Aside0.mk (last_known page entry p seen hp hm ▸ T1.out)
              have e2 : decide (posP page (lastP page entry seen) < (lastP page entry seen).length) = true := decide_eq_true (by rw [last_pos]; unfold lastP; rw [List.length_cons]; omega)
              go_wp2_with (first | (go_at_call 15; (with_reducible refine (get_call _ _ _ _ _ page TN.out).mono ?_); rintro e w3 ⟨rfl, hb⟩; have T3 := Aside0.mk (TN.out.then hb); have B3 := Aside0.mk (below_step B1.out hb); have O3 := Aside0.mk (own_other O1.out (row := none) ⟨hb.os, hb.tape, hb.output, hb.size, fun k hk _ => hb.block k hk⟩ (own_none O1.out)); rw [last_ent, e2]; clear hb))
              go_roundw
              case rel => exact ⟨k + 1, seen, by omega, rfl, ⟨B3.out, ⟨v1, T3.out⟩, O3.out, hs7, LI.out.2.2.2.2⟩⟩
              case measure => simp [intOf]; omega
            · rw [decide_eq_false hm]
              have hl1 : (seen ++ [p]).length = seen.length + 1 := by simp
              have hnm : page ∉ seen ++ [p] := by
                have := LI.out.2.2.2.2
                simp only [List.mem_append, List.mem_cons, List.not_mem_nil, or_false, not_or]
                exact ⟨this, fun e => hp e.symm⟩
              by_cases h7 : seen.length = 7
              · have TN := T1
                have e2 : decide (posP page (putP p ((entry + 1) % 4294967296) (lastP page entry seen)) < (putP p ((entry + 1) % 4294967296) (lastP page entry seen)).length) = false := decide_eq_false (last_out page entry p seen hp hm LI.out.2.2.2.2 h7)
                go_wp2_with (first | (at_builtin; refine print_append_num (w0 := w) w.heap.size rfl (.tmp 55) (.tmp 57) 23 22 .u32 4 rfl Try.underlying23 info22 (by decide) (.slice A1 seen.length c1) seen p rfl (by simp [Act.eval]) O1.out B1.out B1.out.size (by omega) ?_; intro o2 w2 ho2 hb2 hg2 hat2; rw [hl1] at ho2; obtain ⟨A2, c2, rfl⟩ := own_val ho2; have O2 := Aside0.mk ho2; have B2 := Aside0.mk hb2; have T2 := Aside0.mk (TN.out.kept hg2 (fun e => own_not_g O1.out TN.out e.symm) (own_type_ne TN.out.own O1.out (by decide))); clear ho2 hb2 hg2 hat2) | (go_at_call 15; (with_reducible refine (get_call _ _ _ _ _ page T2.out).mono ?_); rintro e w3 ⟨rfl, hb⟩; have T3 := Aside0.mk (T2.out.then hb); have B3 := Aside0.mk (below_step B2.out hb); have O3 := Aside0.mk (own_other O2.out (row := none) ⟨hb.os, hb.tape, hb.output, hb.size, fun k hk _ => hb.block k hk⟩ (own_none O2.out)); rw [e2]; clear hb))
                go_ret
                exact ⟨rfl, B3.out⟩
              · have TN := Aside0.mk (last_new page entry p seen hp hm (by omega) ▸ T1.out)
                have e2 : decide (posP page (lastP page entry (seen ++ [p])) < (lastP page entry (seen ++ [p])).length) = true := decide_eq_true (by rw [last_pos]; unfold lastP; rw [List.length_cons]; omega)
                have h8' : ((seen.length : Int) + 1 < 8) := by omega
                go_wp2_with (first | (at_builtin; refine print_append_num (w0 := w) w.heap.size rfl (.tmp 55) (.tmp 57) 23 22 .u32 4 rfl Try.underlying23 info22 (by decide) (.slice A1 seen.length c1) seen p rfl (by simp [Act.eval]) O1.out B1.out B1.out.size (by omega) ?_; intro o2 w2 ho2 hb2 hg2 hat2; rw [hl1] at ho2; obtain ⟨A2, c2, rfl⟩ := own_val ho2; have O2 := Aside0.mk ho2; have B2 := Aside0.mk hb2; have T2 := Aside0.mk (TN.out.kept hg2 (fun e => own_not_g O1.out TN.out e.symm) (own_type_ne TN.out.own O1.out (by decide))); clear ho2 hb2 hg2 hat2) | (go_at_call 15; (with_reducible refine (get_call _ _ _ _ _ page T2.out).mono ?_); rintro e w3 ⟨rfl, hb⟩; have T3 := Aside0.mk (T2.out.then hb); have B3 := Aside0.mk (below_step B2.out hb); have O3 := Aside0.mk (own_other O2.out (row := none) ⟨hb.os, hb.tape, hb.output, hb.size, fun k hk _ => hb.block k hk⟩ (own_none O2.out)); rw [last_ent, e2]; clear hb))
                go_roundw
                case rel => exact ⟨k + 1, seen ++ [p], by omega, rfl, ⟨B3.out, ⟨v1, T3.out⟩, by rw [hl1]; exact O3.out, by rw [hl1]; omega, hnm⟩⟩
                case measure => simp [intOf]; omega
          · obtain ⟨ad2, rfl, hc2⟩ := RD.out.2.2 (by omega)
            have cx := hc2 j (by omega)
            have hj' : j < seen.length := by omega
            have et := take_mem seen j hj' p
            generalize hxx : seen.getD j 0 = x at *
            clear hc2 hxx
            by_cases hq : p ∈ seen.take j
            · rw [decide_eq_true hq]
              have e' : decide (p ∈ seen.take (j + 1)) = true := decide_eq_true (et.2 (.inl hq))
              have E := Aside0.mk e'
              clear e' et hq
              go_wp2
              go_roundw
              case rel => exact ⟨j + 1, by omega, rfl, by rw [E.out], trivial⟩
              case measure => simp [intOf]; omega
            · rw [decide_eq_false hq]
              by_cases hx : x = p
              · have e' : decide (p ∈ seen.take (j + 1)) = true := decide_eq_true (et.2 (.inr hx.symm))
                have E := Aside0.mk e'
                have hxb : (x == p) = true := beq_iff_eq.mpr hx
                clear e' et hq hx
                go_wp2
                go_roundw
                case rel => exact ⟨j + 1, by omega, rfl, by rw [E.out], trivial⟩
                case measure => simp [intOf]; omega
              · have e' : decide (p ∈ seen.take (j + 1)) = false := decide_eq_false (fun h => (et.1 h).elim hq (fun e => hx e.symm))
                have E := Aside0.mk e'
                have hxb : (x == p) = false := beq_eq_false_iff_ne.mpr hx
                clear e' et hq hx
                go_wp2
                go_roundw
                case rel => exact ⟨j + 1, by omega, rfl, by rw [E.out], trivial⟩
                case measure => simp [intOf]; omega
theorem TlbLasts_walk (a0 a1 : Int) (a2 : Option Addr) (len2 cap2 : Nat) (z2 : List Int) (w : World) (w0 : (Lit.int .u32 a0).wf = true) (w1 : (Lit.int .u32 a1).wf = true) (w2 : IsRow .u32 w a2 len2 cap2 z2) (_ : len2 * 4 ≤ 140737488351232) :
    Calls Try.prog 3 #[.int .u32 a0, .int .u32 a1, .slice a2 len2 cap2] w fun e w' => e = .returned (.bool true) ∧ Below w.heap.size w w' := by
  obtain ⟨l, rfl, hr, hm, hw, hc⟩ := ReadsInt.ofRowC w2
  obtain ⟨n1, rfl, h1⟩ := u32_nat w1
  by_cases h : 60 < l.length
  · exact lasts_long a0 _ a2 l.length cap2 w h
  · exact lasts_ok a0 _ a2 cap2 l w (by omega) (by omega) (by omega) hr
end Go.Proofs.Ytocjadgakalbdaa.TlbWalk
