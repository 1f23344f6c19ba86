/- Rom: the document's Good, and Find, walked. -/
import Derived.Test.YtnljnccfpkpgfaaDoorRomG
namespace Go.Proofs.YtnljnccfpkpgfaaDoor.RomWalk
open Go.RowKit Go.Proofs.YtnljnccfpkpgfaaDoor.Aid Go.Proofs.YtnljnccfpkpgfaaDoorW.PrintWords Go.Proofs.YtnljnccfpkpgfaaDoorW.PrintLast Go.Proofs.YtnljnccfpkpgfaaDoorW.PrintMore
attribute [local go_sem] max2_int min2_int max_two min_two max_three min_three max_four min_four   -- for this text's walks alone
set_option linter.unusedVariables false
set_option linter.unusedSimpArgs false
set_option maxRecDepth 100000 in
set_option maxHeartbeats 8000000 in
theorem rgood_call (w : World) (A : Option Addr) (n c : Nat) (B : Option Addr) (m d : Nat) (ws : List Int) (es : Ents) (h : RomIn w A n c B m d ws es) :
    Calls Tryd.prog 19 #[.agg #[.slice A n c, .slice B m d]] w fun e w' => e = .returned (.bool (goodS ws es)) ∧ Below w.heap.size w w' := by
  have hn := h.words.1
  have hm := h.ents.len
  have BX := below_alloc (Below.refl w.heap.size w) (.cells #[.slice A n c, .slice B m d] 25 (0, 0))
  have XB := heap_alloc_new w (.cells #[.slice A n c, .slice B m d] 25 (0, 0))
  by_cases h2 : 2048 < n ∨ 255 < m
  · rw [good_len (by omega)]
    have H := Aside0.mk BX
    clear BX XB h
    by_cases h1 : 2048 < n
    · have h3 : (2048 : Int) < n := by omega
      clear h2
      go_enter Tryd.func19, Tryd.ntmps19
      go_wp2
      go_ret
      exact ⟨rfl, H.out⟩
    · have h3 : (255 : Int) < m := by omega
      have h4 : ¬ (2048 : Int) < n := by omega
      clear h2
      go_enter Tryd.func19, Tryd.ntmps19
      go_wp2
      go_ret
      exact ⟨rfl, H.out⟩
  have hn1 : ¬ (2048 : Int) < n := by omega
  have hm1 : ¬ (255 : Int) < m := by omega
  have hn2 : n ≤ 2048 := by omega
  have hm2 : m ≤ 255 := by omega
  clear h2
  have H := Aside0.mk (h.then BX)
  obtain ⟨W, hW⟩ : ∃ W, w.alloc (.cells #[.slice A n c, .slice B m d] 25 (0, 0)) = W := ⟨_, rfl⟩
  rw [hW] at BX XB H
  have hBX := Aside0.mk BX
  have hXB := Aside0.mk XB
  have hB := Aside0.mk XB
  have c0 := cell_of_row _ _ 0 _ _ _ XB
  have c1 := cell_of_row _ _ 1 _ _ _ XB
  simp only [List.getElem?_toArray, List.getElem?_cons_zero, List.getElem?_cons_succ] at c0 c1
  clear h BX XB
  go_enter Tryd.func19, Tryd.ntmps19
  go_wp2_with fail
  go_loopw [20] (fun i wr => ∃ j : Nat, j ≤ m ∧ i = .int .i64 j ∧ Aside0 (∀ i, i < j → okE ws es i = true) ∧ Aside0 (Below W.heap.size W wr)) (fun i _ => m - (intOf i).toNat)
  case atStart => exact ⟨0, Nat.zero_le _, rfl, ⟨fun i hi => absurd hi (Nat.not_lt_zero _)⟩, ⟨Below.refl _ _⟩⟩
  case round =>
    obtain ⟨j, hj, rfl, HA, HB⟩ := hrel
    by_cases hjm : j = m
    · subst hjm
      go_wp2
      go_ret
      refine ⟨congrArg (fun q => Ending.returned (Value.bool q)) (good_fine (by omega) (by omega) (fun i hi => HA.out i (by omega))).symm, below_step hBX.out HB.out⟩
    · have hj' : j < m := by omega
      have hj1 : (j : Int) < m := by omega
      have hj0 : (0 : Int) ≤ j := by omega
      have HJ := Aside0.mk hj'
      have R := Aside0.mk (H.out.then HB.out)
      obtain ⟨b, off, rfl, hbl, hcl⟩ := R.out.ents.cells (by omega)
      obtain ⟨e0, e1⟩ := hcl j hj'
      have hez := R.out.ez.get j (by omega)
      obtain ⟨nm, hnm⟩ : ∃ nm, (es.getD j default).1 = nm := ⟨_, rfl⟩
      obtain ⟨at_, hat⟩ : ∃ at_, (es.getD j default).2 = at_ := ⟨_, rfl⟩
      rw [hnm] at e0 hez
      rw [hat] at e1
      have bl := below_alloc HB.out (.cells #[.string nm, .int .i64 at_] 38 (0, 0))
      have hX2 := heap_alloc_new wr (.cells #[.string nm, .int .i64 at_] 38 (0, 0))
      have hY2 := (bl.block _ (Array.getElem?_eq_some_iff.1 hXB.out).1).trans hXB.out
      have R2 := R.out.then (below_alloc (Below.refl _ _) (.cells #[.string nm, .int .i64 at_] 38 (0, 0)))
      obtain ⟨W2, hW2⟩ : ∃ W2, wr.alloc (.cells #[.string nm, .int .i64 at_] 38 (0, 0)) = W2 := ⟨_, rfl⟩
      rw [hW2] at bl hX2 hY2 R2
      have g0 := cell_of_row _ _ 0 _ _ _ hX2
      have g1 := cell_of_row _ _ 1 _ _ _ hX2
      simp only [List.getElem?_toArray, List.getElem?_cons_zero, List.getElem?_cons_succ] at g0 g1
      have BL := Aside0.mk bl
      have hX2 := Aside0.mk hX2
      have hY2 := Aside0.mk hY2
      have R2 := Aside0.mk R2
      have NC := Aside0.mk (fun w => rname_call w nm hez)
      have hnmA := Aside0.mk hnm
      have hatA := Aside0.mk hat
      have HCL := Aside0.mk (fun (w3 : World) (r : RomIn w3 A n c (some ⟨b, off, none⟩) m d ws es) => (show ∀ i, i < es.length → w3.cell? ⟨b, off + i * 2, none⟩ = some (.string (es.getD i default).1) ∧ w3.cell? ⟨b, off + i * 2 + 1, none⟩ = some (.int .i64 (es.getD i default).2) from fun i hi => by
        obtain ⟨b', off', e, _, hc⟩ := r.ents.cells (by omega)
        simp only [Option.some.injEq, Addr.mk.injEq, and_true] at e
        obtain ⟨rfl, rfl⟩ := e
        exact hc i (by omega)))
      have hjd : j ≤ d := by have := H.out.ce; omega
      have hjd1 : (j : Int) ≤ d := by omega
      have hd9 : d ≠ 0 := by have := H.out.ce; omega
      clear hnm hat hcl bl
      have y0 := cell_of_row _ _ 0 _ _ _ hY2.out
      have y1 := cell_of_row _ _ 1 _ _ _ hY2.out
      simp only [List.getElem?_toArray, List.getElem?_cons_zero, List.getElem?_cons_succ] at y0 y1
      cases hq1 : nameS nm with
      | false =>
        rw [hq1] at NC
        go_wp2_with (first
          | (go_at_call 14; (with_reducible refine (NC.out _).mono ?_); rintro e w3 ⟨rfl, rfl⟩))
        go_ret
        refine ⟨congrArg (fun q => Ending.returned (Value.bool q)) (good_bad (j := j) (by omega) ?_).symm, below_step hBX.out (BL.out)⟩
        rw [okE_eq, hnmA.out, hatA.out, hq1]
        simp
      | true =>
      rw [hq1] at NC
      by_cases hq2 : at_ < 0
      · go_wp2_with (first
          | (go_at_call 14; (with_reducible refine (NC.out _).mono ?_); rintro e w3 ⟨rfl, rfl⟩))
        go_ret
        refine ⟨congrArg (fun q => Ending.returned (Value.bool q)) (good_bad (j := j) (by omega) ?_).symm, below_step hBX.out (BL.out)⟩
        rw [okE_eq, hnmA.out, hatA.out, decide_eq_false (by omega : ¬ 0 ≤ at_)]
        simp
      by_cases hq3 : (n : Int) ≤ at_
      · go_wp2_with (first
          | (go_at_call 14; (with_reducible refine (NC.out _).mono ?_); rintro e w3 ⟨rfl, rfl⟩))
        go_ret
        refine ⟨congrArg (fun q => Ending.returned (Value.bool q)) (good_bad (j := j) (by omega) ?_).symm, below_step hBX.out (BL.out)⟩
        rw [okE_eq, hnmA.out, hatA.out, decide_eq_false (by omega : ¬ at_ < (ws.length : Int))]
        simp
      obtain ⟨ge, hge⟩ : ∃ ge, wr.heap.size = ge := ⟨_, rfl⟩
      have hX2 := Aside0.mk (hge ▸ hX2.out)
      rw [hge] at g0 g1
      go_wp2_with (first
        | (go_at_call 14; (with_reducible refine (NC.out _).mono ?_); rintro e w3 ⟨rfl, rfl⟩))
      clear hge
      go_loopw [47] (fun i wr => ∃ k : Nat, k ≤ j ∧ i = .int .i64 k ∧ Aside0 (∀ i, i < k → decide ((es.getD i default).1 = nm) = false) ∧ Aside0 (Below W2.heap.size W2 wr)) (fun i _ => j - (intOf i).toNat)
      case atStart => exact ⟨0, Nat.zero_le _, rfl, ⟨fun i hi => absurd hi (Nat.not_lt_zero _)⟩, ⟨Below.refl _ _⟩⟩
      case round =>
        obtain ⟨k, hk, rfl, HK, HKB⟩ := hrel
        by_cases hkj : k = j
        · subst hkj
          go_wp2
          go_roundw
          case rel =>
            refine ⟨k + 1, by omega, by go_num, ⟨fun i hi => ?_⟩, ⟨BL.out.trans (HKB.out.mono BL.out.size)⟩⟩
            rcases Nat.lt_succ_iff_lt_or_eq.1 hi with hi | rfl
            · exact HA.out i hi
            · have hany : ((es.take i).any fun x => decide (x.1 = nm)) = false := by
                rw [List.any_eq_false]
                intro x hx
                obtain ⟨q, hq, rfl⟩ := List.mem_iff_getElem.1 hx
                rw [List.length_take] at hq
                have := HK.out q (by omega)
                rw [List.getD_eq_getElem?_getD, List.getElem?_eq_getElem (by omega)] at this
                rw [List.getElem_take]
                simpa using this
              rw [okE_eq, hnmA.out, hatA.out, hq1, hany, decide_eq_true (by omega : 0 ≤ at_), decide_eq_true (by omega : at_ < (ws.length : Int))]
              rfl
          case measure => simp [intOf]; omega
        · have hkj' : k < j := by omega
          have hkj1 : (k : Int) < j := by omega
          have hk0 : (0 : Int) ≤ k := by omega
          have R5 := Aside0.mk (R2.out.then HKB.out)
          obtain ⟨u0, u1⟩ := HCL.out wr R5.out k (by omega)
          obtain ⟨fn, hfn⟩ : ∃ fn, (es.getD k default).1 = fn := ⟨_, rfl⟩
          obtain ⟨fa, hfa⟩ : ∃ fa, (es.getD k default).2 = fa := ⟨_, rfl⟩
          rw [hfn] at u0
          rw [hfa] at u1
          have X5 := Aside0.mk (row_below (row_below hX2.out HKB.out) (below_alloc (Below.refl _ _) (.cells #[.string fn, .int .i64 fa] 38 (0, 0))))
          have B5 := Aside0.mk (below_alloc HKB.out (.cells #[.string fn, .int .i64 fa] 38 (0, 0)))
          have F5 := Aside0.mk (heap_alloc_new wr (.cells #[.string fn, .int .i64 fa] 38 (0, 0)))
          obtain ⟨W5, hW5⟩ : ∃ W5, wr.alloc (.cells #[.string fn, .int .i64 fa] 38 (0, 0)) = W5 := ⟨_, rfl⟩
          rw [hW5] at X5 B5 F5
          have x0 := cell_of_row _ _ 0 _ _ _ X5.out
          have f0 := cell_of_row _ _ 0 _ _ _ F5.out
          simp only [List.getElem?_toArray, List.getElem?_cons_zero] at x0 f0
          have hfnA := Aside0.mk hfn
          clear hfn hfa
          cases hq5 : decide (fn = nm) with
          | true =>
            have hbt : (fn.toList == nm.toList) = true := (bt_eq fn nm).trans hq5
            go_wp2
            go_ret
            refine ⟨congrArg (fun q => Ending.returned (Value.bool q)) (good_bad (j := j) (by omega) ?_).symm, below_step hBX.out (BL.out.trans (B5.out.mono BL.out.size))⟩
            have hany : ((es.take j).any fun x => decide (x.1 = nm)) = true := by
              rw [List.any_eq_true]
              refine ⟨es.getD k default, ?_, by rw [hfnA.out]; exact hq5⟩
              rw [List.getD_eq_getElem?_getD, List.getElem?_eq_getElem (by omega)]
              exact List.mem_iff_getElem.2 ⟨k, by rw [List.length_take]; omega, by rw [List.getElem_take]; rfl⟩
            rw [okE_eq, hnmA.out, hany]
            simp
          | false =>
            have hbt : (fn.toList == nm.toList) = false := (bt_eq fn nm).trans hq5
            go_wp2
            go_roundw
            case rel =>
              refine ⟨k + 1, by omega, by go_num, ⟨fun i hi => ?_⟩, ⟨B5.out⟩⟩
              rcases Nat.lt_succ_iff_lt_or_eq.1 hi with hi | rfl
              · exact HK.out i hi
              · rw [hfnA.out]; exact hq5
            case measure => simp [intOf]; omega
/-- What Find answers. -/
def findS (es : Ents) (nm : ByteArray) : Int × Bool :=
  match es.find? (fun e => decide (e.1 = nm)) with
  | some e => (e.2, true)
  | none => (0, false)
theorem find_none {es : Ents} {nm : ByteArray} (h : ∀ i, i < es.length → decide ((es.getD i default).1 = nm) = false) : findS es nm = (0, false) := by
  unfold findS
  have : es.find? (fun e => decide (e.1 = nm)) = none := by
    rw [List.find?_eq_none]
    intro x hx
    obtain ⟨q, hq, rfl⟩ := List.mem_iff_getElem.1 hx
    have := h q hq
    rw [List.getD_eq_getElem?_getD, List.getElem?_eq_getElem hq] at this
    simpa using this
  rw [this]
theorem find_some {es : Ents} {nm : ByteArray} {j : Nat} (hj : j < es.length) (h : ∀ i, i < j → decide ((es.getD i default).1 = nm) = false) (hy : decide ((es.getD j default).1 = nm) = true) : findS es nm = ((es.getD j default).2, true) := by
  unfold findS
  have e : es.getD j default = es[j] := by rw [List.getD_eq_getElem?_getD, List.getElem?_eq_getElem hj]; rfl
  have : es.find? (fun e => decide (e.1 = nm)) = some es[j] := by
    rw [List.find?_eq_some_iff_getElem]
    refine ⟨by rw [← e]; exact hy, j, hj, rfl, fun i hi => ?_⟩
    have := h i hi
    rw [List.getD_eq_getElem?_getD, List.getElem?_eq_getElem (by omega)] at this
    simpa using this
  rw [this, e]
set_option maxRecDepth 100000 in
set_option maxHeartbeats 8000000 in
theorem find_call (w : World) (A : Option Addr) (n c : Nat) (B : Option Addr) (m d : Nat) (ws : List Int) (es : Ents) (nm : ByteArray) (h : RomIn w A n c B m d ws es) :
    Calls Tryd.prog 15 #[.agg #[.slice A n c, .slice B m d], .string nm] w fun e w' => e = .returned (.tuple #[.int .i64 (findS es nm).1, .bool (findS es nm).2]) ∧ Below w.heap.size w w' := by
  have hm := h.ents.len
  have hmm := h.ents.max
  have BX := below_alloc (Below.refl w.heap.size w) (.cells #[.slice A n c, .slice B m d] 25 (0, 0))
  have XB := heap_alloc_new w (.cells #[.slice A n c, .slice B m d] 25 (0, 0))
  have H := Aside0.mk (h.then BX)
  obtain ⟨W, hW⟩ : ∃ W, w.alloc (.cells #[.slice A n c, .slice B m d] 25 (0, 0)) = W := ⟨_, rfl⟩
  rw [hW] at BX XB H
  have hBX := Aside0.mk BX
  have c0 := cell_of_row _ _ 0 _ _ _ XB
  have c1 := cell_of_row _ _ 1 _ _ _ XB
  simp only [List.getElem?_toArray, List.getElem?_cons_zero, List.getElem?_cons_succ] at c0 c1
  clear h BX XB
  go_enter Tryd.func15, Tryd.ntmps15
  go_wp2_with fail
  go_loopw [11] (fun i wr => ∃ j : Nat, j ≤ m ∧ i = .int .i64 j ∧ Aside0 (∀ i, i < j → decide ((es.getD i default).1 = nm) = false) ∧ Aside0 (Below W.heap.size W wr)) (fun i _ => m - (intOf i).toNat)
  case atStart => exact ⟨0, Nat.zero_le _, rfl, ⟨fun i hi => absurd hi (Nat.not_lt_zero _)⟩, ⟨Below.refl _ _⟩⟩
  case round =>
    obtain ⟨j, hj, rfl, HA, HB⟩ := hrel
    by_cases hjm : j = m
    · subst hjm
      go_wp2
      go_ret2
      have e := find_none (es := es) (nm := nm) (fun i hi => HA.out i (by omega))
      rw [e]
      exact ⟨rfl, below_step hBX.out HB.out⟩
    · have hj' : j < m := by omega
      have hj1 : (j : Int) < m := by omega
      have hj0 : (0 : Int) ≤ j := by omega
      have R := Aside0.mk (H.out.then HB.out)
      obtain ⟨b, off, rfl, hbl, hcl⟩ := R.out.ents.cells (by omega)
      obtain ⟨e0, e1⟩ := hcl j hj'
      obtain ⟨fn, hfn⟩ : ∃ fn, (es.getD j default).1 = fn := ⟨_, rfl⟩
      obtain ⟨fa, hfa⟩ : ∃ fa, (es.getD j default).2 = fa := ⟨_, rfl⟩
      rw [hfn] at e0
      rw [hfa] at e1
      have hfnA := Aside0.mk hfn
      have hfaA := Aside0.mk hfa
      have bl := Aside0.mk (below_alloc HB.out (.cells #[.string fn, .int .i64 fa] 38 (0, 0)))
      clear hcl hfn hfa
      cases hq5 : decide (fn = nm) with
      | true =>
        have hbt : (fn.toList == nm.toList) = true := (bt_eq fn nm).trans hq5
        go_wp2
        go_ret2
        have e := find_some (es := es) (nm := nm) (j := j) (by omega) HA.out (by rw [hfnA.out]; exact hq5)
        rw [e, hfaA.out]
        exact ⟨rfl, below_step hBX.out bl.out⟩
      | false =>
        have hbt : (fn.toList == nm.toList) = false := (bt_eq fn nm).trans hq5
        go_wp2
        go_roundw
        case rel =>
          refine ⟨j + 1, by omega, by go_num, ⟨fun i hi => ?_⟩, bl⟩
          rcases Nat.lt_succ_iff_lt_or_eq.1 hi with hi | rfl
          · exact HA.out i hi
          · rw [hfnA.out]; exact hq5
        case measure => simp [intOf]; omega
end Go.Proofs.YtnljnccfpkpgfaaDoor.RomWalk
