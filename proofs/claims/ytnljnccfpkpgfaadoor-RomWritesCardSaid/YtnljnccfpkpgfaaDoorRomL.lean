/- Rom: the laws' own helpers, alive and great, walked. -/
import Derived.Test.YtnljnccfpkpgfaaDoorRomK
namespace Go.Proofs.YtnljnccfpkpgfaaDoor.RomWalk
open Go.RowKit Go.Proofs.YtnljnccfpkpgfaaDoor.Aid Go.Proofs.YtnljnccfpkpgfaaDoorW.PrintWords Go.Proofs.YtnljnccfpkpgfaaDoorW.PrintLast Go.Proofs.YtnljnccfpkpgfaaDoorW.PrintMore
attribute [local go_sem] max2_int min2_int max_two min_two max_three min_three max_four min_four   -- for this text's walks alone
set_option linter.unusedVariables false
set_option linter.unusedSimpArgs false
theorem RomIn.nil (W : World) : RomIn W none 0 0 none 0 0 [] [] := ⟨ReadsInt.nil _ _, Nat.le_refl 0, ReadsE.nil W, Nat.le_refl 0, fun e he => by cases he⟩
theorem enc_nil : (encS [] []).length = 11 := by kernel_rfl
theorem enc_nil7 : strOfNums ((encS [] []).take 7) = ⟨#[67, 65, 77, 82, 0, 0, 0]⟩ := by kernel_rfl
def IsB (e : Ending) : Prop := ∃ g, e = .returned (.bool g)
theorem IsB.mk (g : Bool) : IsB (.returned (.bool g)) := ⟨g, rfl⟩
theorem own_cap {W : World} {base e n c : Nat} {A : Option Addr} {xs : List Value} (h : W.ownsRow base e 1 (.slice A (n + 1) c) (n + 1) xs) : n + 1 ≤ c := by
  rcases h.2 with ⟨_, h0⟩ | ⟨_, _, _, hv, _, _, hc, _⟩
  · omega
  · injection hv with _ _ hv
    omega
theorem encode_none (w : World) : Calls Tryd.prog 10 #[.agg #[.slice none 0 0, .slice none 0 0]] w fun e w' => ∃ A1 c1, e = .returned (.tuple #[.slice A1 11 c1, .int .i64 0]) ∧ 7 ≤ c1 ∧ (convert 28 9 (.slice A1 7 c1)).run Tryd.prog w' = .ok (.string ⟨#[67, 65, 77, 82, 0, 0, 0]⟩) w' ∧ Below w.heap.size w w' := by
  refine (encode_ok w none 0 0 none 0 0 [] [] (fun x hx => by cases hx) (RomIn.nil w) rfl).mono ?_
  rintro e w1 ⟨A1, m1, c1, rfl, hm, ho, hb⟩
  have hm11 : m1 = 11 := hm.out.symm.trans enc_nil
  subst hm11
  have hcap : 10 + 1 ≤ c1 := own_cap ho
  refine ⟨A1, c1, rfl, by omega, ?_, hb⟩
  rw [← enc_nil7]
  exact string_of_reads (P := Tryd.prog) Tryd.underlying28 Tryd.underlying5 Tryd.underlying9 ((own_reads' ho).take_ 7 (by decide))
set_option maxRecDepth 100000 in
set_option maxHeartbeats 4000000 in
theorem alive_call (w : World) : Calls Tryd.prog 8 #[] w fun e w' => e = .returned (.bool true) ∧ Below w.heap.size w w' := by
  have EC := Aside0.mk (encode_none w)
  go_enter Tryd.func8, Tryd.ntmps8
  go_wp2_with (first
    | (go_at_call 10; go_loud ((with_reducible refine (EC.out).mono ?_); rintro e w1 ⟨A1, c1, rfl, hc, kst, hb⟩; have B1 := Aside0.mk hb; have hc1 : (7 : Int) ≤ c1 := (by omega); clear hb)))
  go_ret
  exact ⟨rfl, B1.out⟩
set_option maxRecDepth 100000 in
set_option maxHeartbeats 8000000 in
theorem great_call (w : World) (A : Option Addr) (n c : Nat) (B : Option Addr) (m d : Nat) (ws : List Int) (es : Ents) (h : RomIn w A n c B m d ws es) :
    Calls Tryd.prog 9 #[.agg #[.slice A n c, .slice B m d]] w fun e w' => IsB e ∧ Below w.heap.size w w' := by
  have hn := h.words.1
  have hm := h.ents.len
  have hmm := h.ents.max
  have BX := below_alloc (Below.refl w.heap.size w) (.cells #[.slice A n c, .slice B m d] 25 (0, 0))
  have XB := heap_alloc_new w (.cells #[.slice A n c, .slice B m d] 25 (0, 0))
  have H := Aside0.mk (h.then BX)
  obtain ⟨W, hW⟩ : ∃ W, w.alloc (.cells #[.slice A n c, .slice B m d] 25 (0, 0)) = W := ⟨_, rfl⟩
  rw [hW] at BX XB H
  have hBX := Aside0.mk BX
  have c0 := cell_of_row _ _ 0 _ _ _ XB
  have c1 := cell_of_row _ _ 1 _ _ _ XB
  simp only [List.getElem?_toArray, List.getElem?_cons_zero, List.getElem?_cons_succ] at c0 c1
  have HC := Aside0.mk (fun (W' : World) (b : Below W.heap.size W W') => (⟨(b.cell (p := ⟨w.heap.size, 0, none⟩) (Array.getElem?_eq_some_iff.1 XB).1).trans c0, (b.cell (p := ⟨w.heap.size, 1, none⟩) (Array.getElem?_eq_some_iff.1 XB).1).trans c1⟩ : W'.cell? ⟨w.heap.size, 0, none⟩ = some (.slice A n c) ∧ W'.cell? ⟨w.heap.size, 1, none⟩ = some (.slice B m d)))
  clear h BX XB
  go_enter Tryd.func9, Tryd.ntmps9
  go_wp2_with fail
  go_loopw [3, 9] (fun z i wr => ∃ j : Nat, j ≤ m ∧ i = .int .i64 j ∧ (∃ q : Int, z = .int .i64 q) ∧ Aside0 (Below W.heap.size W wr)) (fun _ i _ => m - (intOf i).toNat)
  case atStart => exact ⟨0, Nat.zero_le _, rfl, ⟨0, rfl⟩, ⟨Below.refl _ _⟩⟩
  case round =>
    obtain ⟨j, hj, rfl, ⟨q, rfl⟩, HB⟩ := hrel
    obtain ⟨f0, f1⟩ := HC.out _ HB.out
    by_cases hjm : j = m
    · subst hjm
      go_wp2
      go_ret
      exact ⟨IsB.mk _, below_step hBX.out HB.out⟩
    · have hj' : j < m := by omega
      have hj1 : (j : Int) < m := by omega
      have HJ := Aside0.mk hj'
      obtain ⟨b, off, rfl, hbl, hcl⟩ := (H.out.then HB.out).ents.cells (by omega)
      obtain ⟨e0, e1⟩ := hcl j hj'
      obtain ⟨nm, hnm⟩ : ∃ nm, (es.getD j default).1 = nm := ⟨_, rfl⟩
      obtain ⟨at_, hat⟩ : ∃ at_, (es.getD j default).2 = at_ := ⟨_, rfl⟩
      rw [hnm] at e0
      rw [hat] at e1
      clear hnm hat hcl
      have bl := below_alloc HB.out (.cells #[.string nm, .int .i64 at_] 38 (0, 0))
      have hX2 := heap_alloc_new wr (.cells #[.string nm, .int .i64 at_] 38 (0, 0))
      obtain ⟨W2, hW2⟩ : ∃ W2, wr.alloc (.cells #[.string nm, .int .i64 at_] 38 (0, 0)) = W2 := ⟨_, rfl⟩
      rw [hW2] at bl hX2
      have g0 := cell_of_row _ _ 0 _ _ _ hX2
      simp only [List.getElem?_toArray, List.getElem?_cons_zero, List.getElem?_cons_succ] at g0
      obtain ⟨k0, k1⟩ := HC.out _ bl
      have BL := Aside0.mk bl
      clear bl hX2
      obtain ⟨q2, hq2⟩ : ∃ q2, IntKind.i64.wrap (q + nm.size) = q2 := ⟨_, rfl⟩
      have HQ := Aside0.mk hq2
      by_cases h1 : (1024 : Int) < q2
      · go_wp2
        all_goals (go_ret; exact ⟨IsB.mk _, below_step hBX.out BL.out⟩)
      · by_cases h2 : (20 : Int) < m
        · go_wp2
          all_goals (go_ret; exact ⟨IsB.mk _, below_step hBX.out BL.out⟩)
        · go_wp2
          go_roundw
          case rel => exact ⟨j + 1, HJ.out, by go_num, ⟨_, rfl⟩, BL⟩
          case measure => have := HJ.out; simp [intOf]; omega
end Go.Proofs.YtnljnccfpkpgfaaDoor.RomWalk
