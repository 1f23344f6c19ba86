/- Rom: RomWrites, walked. -/
import Derived.Test.YtnljnccfpkpgfaaDoorRomL
namespace Go.Proofs.YtnljnccfpkpgfaaDoor.RomWalk
open Go.RowKit Go.Proofs.YtnljnccfpkpgfaaDoor.Aid Go.Proofs.YtnljnccfpkpgfaaDoorW.PrintWords Go.Proofs.YtnljnccfpkpgfaaDoorW.PrintLast Go.Proofs.YtnljnccfpkpgfaaDoorW.PrintMore
attribute [local go_sem] max2_int min2_int max_two min_two max_three min_three max_four min_four   -- for this text's walks alone
set_option linter.unusedVariables false
set_option linter.unusedSimpArgs false
def encX (g : Bool) (ws : List Int) (es : Ents) : List Int := if g then encS ws es else []
def Code2 (g : Bool) (k : Int) : Prop := (g = true ∧ k = 0) ∨ (g = false ∧ k = 1)
theorem enc1 (w : World) (A : Option Addr) (n c : Nat) (B : Option Addr) (m d : Nat) (ws : List Int) (es : Ents) (g : Bool) (k : Int) (hgk : Code2 g k) (hwr : WR ws) (hg : goodS ws es = g) (h : RomIn w A n c B m d ws es) :
    Calls Tryd.prog 10 #[.agg #[.slice A n c, .slice B m d]] w fun e w' => ∃ A1 m1 c1, e = .returned (.tuple #[.slice A1 m1 c1, .int .i64 k]) ∧ ReadsInt w' .u8 A1 m1 (encX g ws es) ∧ Below w.heap.size w w' := by
  rcases hgk with ⟨rfl, rfl⟩ | ⟨rfl, rfl⟩
  · refine (encode_ok w A n c B m d ws es hwr h hg).mono ?_
    rintro e w' ⟨A', m', c', rfl, hm, ho, hb⟩
    exact ⟨A', m', c', rfl, own_reads' ho, hb⟩
  · refine (encode_bad w A n c B m d ws es h hg).mono ?_
    rintro e w' ⟨rfl, hb⟩
    exact ⟨none, 0, 0, rfl, ReadsInt.nil _ _, hb⟩
theorem enc2 (w : World) (A : Option Addr) (n c : Nat) (B : Option Addr) (m d : Nat) (ws : List Int) (es : Ents) (g : Bool) (hwr : WR ws) (hg : goodS ws es = g) (h : RomIn w A n c B m d ws es) :
    Calls Tryd.prog 11 #[.agg #[.slice A n c, .slice B m d]] w fun e w' => ∃ A1 m1 c1, e = .returned (.tuple #[.slice A1 m1 c1, .bool g]) ∧ ReadsInt w' .u8 A1 m1 (encX g ws es) ∧ Below w.heap.size w w' := by
  cases g with
  | true =>
    refine (rencode_ok w A n c B m d ws es hwr h hg).mono ?_
    rintro e w' ⟨A', m', c', rfl, hm, ho, hb⟩
    exact ⟨A', m', c', rfl, own_reads' ho, hb⟩
  | false =>
    refine (rencode_bad w A n c B m d ws es h hg).mono ?_
    rintro e w' ⟨rfl, hb⟩
    exact ⟨none, 0, 0, rfl, ReadsInt.nil _ _, hb⟩
theorem str_enc (X : List Int) (w : World) (A : Option Addr) (n c : Nat) (h : ReadsInt w .u8 A n X) : (convert 28 9 (.slice A n c)).run Tryd.prog w = .ok (.string (strOfNums X)) w :=
  string_of_reads (P := Tryd.prog) Tryd.underlying28 Tryd.underlying5 Tryd.underlying9 h
set_option maxRecDepth 100000 in
set_option maxHeartbeats 8000000 in
theorem writes_k (w : World) (A : Option Addr) (n c : Nat) (B : Option Addr) (m d : Nat) (ws : List Int) (es : Ents) (nm : ByteArray) (g : Bool) (k : Int) (hgk : Code2 g k) (hwr : WR ws) (hg : goodS ws es = g) (hnm : nm.size ≤ maxLen) (h : RomIn w A n c B m d ws es) :
    Calls Tryd.prog 3 #[.agg #[.slice A n c, .slice B m d], .string nm] w fun e w' => e = .returned (.bool true) ∧ Below w.heap.size w w' := by
  have hm := h.ents.len
  have hmm := h.ents.max
  have BX := below_alloc (Below.refl w.heap.size w) (.cells #[.slice A n c, .slice B m d] 25 (0, 0))
  have XB := heap_alloc_new w (.cells #[.slice A n c, .slice B m d] 25 (0, 0))
  have H := Aside0.mk (h.then BX)
  obtain ⟨W, hW⟩ : ∃ W, w.alloc (.cells #[.slice A n c, .slice B m d] 25 (0, 0)) = W := ⟨_, rfl⟩
  rw [hW] at BX XB H
  have hBX := Aside0.mk BX
  have c0 := cell_of_row _ _ 0 _ _ _ XB
  have c1 := cell_of_row _ _ 1 _ _ _ XB
  simp only [List.getElem?_toArray, List.getElem?_cons_zero, List.getElem?_cons_succ] at c0 c1
  have HC := Aside0.mk (fun (W' : World) (b : Below W.heap.size W W') => (⟨(b.cell (p := ⟨w.heap.size, 0, none⟩) (Array.getElem?_eq_some_iff.1 XB).1).trans c0, (b.cell (p := ⟨w.heap.size, 1, none⟩) (Array.getElem?_eq_some_iff.1 XB).1).trans c1⟩ : W'.cell? ⟨w.heap.size, 0, none⟩ = some (.slice A n c) ∧ W'.cell? ⟨w.heap.size, 1, none⟩ = some (.slice B m d)))
  clear h BX XB
  have AL := Aside0.mk alive_call
  have GR := Aside0.mk (fun w' (b : Below W.heap.size W w') => great_call w' A n c B m d ws es (H.out.then b))
  have E1 := Aside0.mk (fun w' (b : Below W.heap.size W w') => enc1 w' A n c B m d ws es g k hgk hwr hg (H.out.then b))
  have E2 := Aside0.mk (fun w' (b : Below W.heap.size W w') => enc2 w' A n c B m d ws es g hwr hg (H.out.then b))
  have GD := Aside0.mk (fun w' (b : Below W.heap.size W w') => hg ▸ good_call w' A n c B m d ws es (H.out.then b))
  obtain ⟨p, ok, hp⟩ : ∃ p ok, findS es nm = (p, ok) := ⟨_, _, rfl⟩
  have FC := Aside0.mk (fun w' (b : Below W.heap.size W w') => hp ▸ find_call w' A n c B m d ws es nm (H.out.then b))
  obtain ⟨q, hq⟩ : ∃ q, nameS nm = q := ⟨_, rfl⟩
  have NC := Aside0.mk (fun w' => hq ▸ name_call w' nm hnm)
  have RC := Aside0.mk (fun w' => hq ▸ rname_call w' nm hnm)
  have ST := Aside0.mk (str_enc (encX g ws es))
  generalize encX g ws es = X at *
  generalize strOfNums X = S at *
  have HP := Aside0.mk hp
  clear hp hq hg hwr
  rcases hgk with ⟨rfl, rfl⟩ | ⟨rfl, rfl⟩
  all_goals (
    go_enter Tryd.func3, Tryd.ntmps3
    by_cases hz : (256 : Int) < nm.size
    · go_wp2_with (first
        | (go_at_call 8; (with_reducible refine (AL.out _).mono ?_); rintro e w1 ⟨rfl, hb⟩; have B1 := Aside0.mk hb; obtain ⟨d0, d1⟩ := HC.out _ B1.out; clear hb)
        | (go_at_call 9; (with_reducible refine (GR.out _ B1.out).mono ?_); rintro e w2 ⟨⟨gr, rfl⟩, hb⟩; have B2 := Aside0.mk (below_step B1.out hb); clear hb; cases gr))
      all_goals (go_ret; exact ⟨rfl, below_step hBX.out B2.out⟩)
    go_wp2_with (first
      | (go_at_call 8; (with_reducible refine (AL.out _).mono ?_); rintro e w1 ⟨rfl, hb⟩; have B1 := Aside0.mk hb; obtain ⟨d0, d1⟩ := HC.out _ B1.out; clear hb)
      | (go_at_call 9; (with_reducible refine (GR.out _ B1.out).mono ?_); rintro e w2 ⟨⟨gr, rfl⟩, hb⟩; have B2 := Aside0.mk (below_step B1.out hb); obtain ⟨e0, e1⟩ := HC.out _ B2.out; clear hb; cases gr)
      | (go_at_call 10; (with_reducible refine (E1.out _ B2.out).mono ?_); rintro e w3 ⟨A1, m1, c1', rfl, hr3, hb⟩; have B3 := Aside0.mk (below_step B2.out hb); obtain ⟨f0, f1⟩ := HC.out _ B3.out; have R3 := Aside0.mk hr3; clear hb hr3)
      | (go_at_call 11; (with_reducible refine (E2.out _ B3.out).mono ?_); rintro e w4 ⟨A2, m2, c2', rfl, hr4, hb⟩; have B4 := Aside0.mk (below_step B3.out hb); obtain ⟨g0, g1⟩ := HC.out _ B4.out; have kst1 := ST.out w4 A1 m1 c1' (R3.out.below hb); have kst2 := ST.out w4 A2 m2 c2' hr4; clear hb hr4)
      | (go_at_call 12; (with_reducible refine (GD.out _ B4.out).mono ?_); rintro e w5 ⟨rfl, hb⟩; have B5 := Aside0.mk (below_step B4.out hb); clear hb)
      | (go_at_call 13; (with_reducible refine (NC.out _).mono ?_); rintro e w6 ⟨rfl, hb⟩; have B6 := Aside0.mk (below_step B5.out hb); obtain ⟨k0, k1⟩ := HC.out _ B6.out; clear hb)
      | (go_at_call 14; (with_reducible refine (RC.out _).mono ?_); rintro e w7 ⟨rfl, rfl⟩)
      | (go_at_call 15; (with_reducible refine (FC.out _ B6.out).mono ?_); rintro e w8 ⟨rfl, hb⟩; have B8 := Aside0.mk (below_step B6.out hb); obtain ⟨l0, l1⟩ := HC.out _ B8.out; clear hb))
    any_goals (go_ret; exact ⟨rfl, below_step hBX.out B2.out⟩)
    clear AL GR E1 E2 GD FC NC RC ST
    go_loopw [73] (fun i wr => ∃ j : Nat, j ≤ m ∧ i = .int .i64 j ∧ Aside0 (∀ i, i < j → decide ((es.getD i default).1 = nm) = false) ∧ Aside0 (Below W.heap.size W wr)) (fun i _ => m - (intOf i).toNat)
    case atStart => exact ⟨0, Nat.zero_le _, rfl, ⟨fun i hi => absurd hi (Nat.not_lt_zero _)⟩, B8⟩
    case round =>
      obtain ⟨j, hj, rfl, HA, HB⟩ := hrel
      by_cases hjm : j = m
      · have e := find_none (es := es) (nm := nm) (fun i hi => HA.out i (by omega))
        rw [HP.out] at e
        simp only [Prod.mk.injEq] at e
        obtain ⟨rfl, rfl⟩ := e
        subst hjm
        go_wp2
        go_ret
        exact ⟨rfl, below_step hBX.out HB.out⟩
      · have hj' : j < m := by omega
        have hj1 : (j : Int) < m := by omega
        have hj0 : (0 : Int) ≤ j := by omega
        have R := Aside0.mk (H.out.then HB.out)
        obtain ⟨b, off, rfl, hbl, hcl⟩ := R.out.ents.cells (by omega)
        obtain ⟨e0, e1⟩ := hcl j hj'
        obtain ⟨fn, hfn⟩ : ∃ fn, (es.getD j default).1 = fn := ⟨_, rfl⟩
        obtain ⟨fa, hfa⟩ : ∃ fa, (es.getD j default).2 = fa := ⟨_, rfl⟩
        rw [hfn] at e0
        rw [hfa] at e1
        have hfnA := Aside0.mk hfn
        have hfaA := Aside0.mk hfa
        have bl := Aside0.mk (below_alloc HB.out (.cells #[.string fn, .int .i64 fa] 38 (0, 0)))
        clear hcl hfn hfa
        cases hq5 : decide (fn = nm) with
        | true =>
          have hbt : (fn.toList == nm.toList) = true := (bt_eq fn nm).trans hq5
          have e := find_some (es := es) (nm := nm) (j := j) (by omega) HA.out (by rw [hfnA.out]; exact hq5)
          rw [HP.out, hfaA.out] at e
          simp only [Prod.mk.injEq] at e
          obtain ⟨rfl, rfl⟩ := e
          go_wp2
          go_ret
          exact ⟨rfl, below_step hBX.out bl.out⟩
        | false =>
          have hbt : (fn.toList == nm.toList) = false := (bt_eq fn nm).trans hq5
          go_wp2
          go_roundw
          case rel =>
            refine ⟨j + 1, by omega, by go_num, ⟨fun i hi => ?_⟩, bl⟩
            rcases Nat.lt_succ_iff_lt_or_eq.1 hi with hi | rfl
            · exact HA.out i hi
            · rw [hfnA.out]; exact hq5
          case measure => simp [intOf]; omega)
theorem writes_w (w : World) (A : Option Addr) (n c : Nat) (B : Option Addr) (m d : Nat) (ws : List Int) (es : Ents) (nm : ByteArray) (hwr : WR ws) (hnm : nm.size ≤ maxLen) (h : RomIn w A n c B m d ws es) :
    Calls Tryd.prog 3 #[.agg #[.slice A n c, .slice B m d], .string nm] w fun e w' => e = .returned (.bool true) ∧ Below w.heap.size w w' := by
  cases hg : goodS ws es with
  | true => exact writes_k w A n c B m d ws es nm true 0 (.inl ⟨rfl, rfl⟩) hwr hg hnm h
  | false => exact writes_k w A n c B m d ws es nm false 1 (.inr ⟨rfl, rfl⟩) hwr hg hnm h
end Go.Proofs.YtnljnccfpkpgfaaDoor.RomWalk
