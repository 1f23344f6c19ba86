/- The registers' functions of layer 7, walked: Undo. -/
import Derived.Test.YtbgcbnlpjjhmhaaRegsG
import Derived.Test.YtbgcbnlpjjhmhaaLinesC
namespace Go.Proofs.Ytbgcbnlpjjhmhaa.RegsWalk
open Go.RowKit Go.Proofs.Ytbgcbnlpjjhmhaa.Aid Go.Proofs.YtbgcbnlpjjhmhaaW.PrintWords Go.Proofs.YtbgcbnlpjjhmhaaW.PrintLast Go.Proofs.YtbgcbnlpjjhmhaaW.PrintMore
open Go.Proofs.Ytbgcbnlpjjhmhaa.LinesWalk (Kept2 NewRow own_then own_some own_pre)
set_option linter.unusedVariables false
set_option linter.unusedSimpArgs false
def back1 (e : Nat × Int) (R : Nat → Int) : Nat → Int := updI R e.1 ((R e.1 - e.2) % 4294967296)
def backR (R : Nat → Int) (xs : List (Nat × Int)) : Nat → Int := xs.foldr back1 R
def stepsLen (W : World) (g : Nat) : Nat := match W.cell? ⟨g, 19, none⟩ with | some (.slice _ n _) => n | _ => 0
theorem stepsLen_eq {W : World} {g : Nat} {r : Nat → Int} {s p k u : Int} {A : Option Addr} {n c : Nat} (h : FileAt W g r s p k u (.slice A n c)) : stepsLen W g = n := by
  unfold stepsLen
  rw [show W.cell? ⟨g, 19, none⟩ = some (.slice A n c) from h.cell 19]
theorem own_val1 {W : World} {base e s n : Nat} {v : Value} {xs : List Value} (h : W.ownsRow base e s v n xs) : ∃ A c, v = .slice A n c := by
  rcases h.2 with ⟨rfl, rfl⟩ | ⟨b, c, cur, rfl, _⟩
  · exact ⟨none, 0, rfl⟩
  · exact ⟨_, c, rfl⟩
theorem stps_length : ∀ xs : List (Nat × Int), (stps xs).length = xs.length * 2
  | [] => rfl
  | e :: xs => by show (stp e ++ stps xs).length = _; rw [List.length_append, stps_length xs, List.length_cons]; show 2 + _ = _; omega
theorem stps_last (xs : List (Nat × Int)) (m : Nat) (hm : m < xs.length) (j : Nat) : (stps (xs.take (m + 1)))[m * 2 + j]? = (stp xs[m])[j]? := by
  rw [List.take_add_one, List.getElem?_eq_getElem hm, stps_append, List.getElem?_append_right (by rw [stps_length, List.length_take]; omega), stps_length, List.length_take, Nat.min_eq_left (by omega), show m * 2 + j - m * 2 = j from by omega]
  show (stp xs[m] ++ [])[j]? = _
  rw [List.append_nil]
theorem undo_end (w : World) (base g : Nat) (R : Nat → Int) (p k u : Int) (b m c N : Nat) (D : Int) (xs : List (Nat × Int)) (hl : xs.length = m + 1) (h : FileAt w g R (R 14) p k u (.slice (some ⟨b, 0, none⟩) (m + 1) c))
    (hr : w.ownsRow base 80 2 (.slice (some ⟨b, 0, none⟩) (m + 1) c) (m + 1) (stps xs)) (hg : base ≤ g) (hne : b ≠ g) :
    ((w.setCell ⟨g, 19, none⟩ (.slice (some ⟨b, 0, none⟩) m c)).alloc (.cells #[.int .i64 N, .int .u32 D] 80 (0, 0))).drew.drew.cell? ⟨w.heap.size, 0, none⟩ = some (.int .i64 N) ∧
    ((w.setCell ⟨g, 19, none⟩ (.slice (some ⟨b, 0, none⟩) m c)).alloc (.cells #[.int .i64 N, .int .u32 D] 80 (0, 0))).drew.drew.cell? ⟨w.heap.size, 1, none⟩ = some (.int .u32 D) ∧
    FileAt ((w.setCell ⟨g, 19, none⟩ (.slice (some ⟨b, 0, none⟩) m c)).alloc (.cells #[.int .i64 N, .int .u32 D] 80 (0, 0))).drew.drew g R (R 14) p k u (.slice (some ⟨b, 0, none⟩) m c) ∧
    ((w.setCell ⟨g, 19, none⟩ (.slice (some ⟨b, 0, none⟩) m c)).alloc (.cells #[.int .i64 N, .int .u32 D] 80 (0, 0))).drew.drew.ownsRow base 80 2 (.slice (some ⟨b, 0, none⟩) m c) m (stps (xs.take m)) ∧
    Kept2 w ((w.setCell ⟨g, 19, none⟩ (.slice (some ⟨b, 0, none⟩) m c)).alloc (.cells #[.int .i64 N, .int .u32 D] 80 (0, 0))).drew.drew g (some b) := by
  have hs : (w.setCell ⟨g, 19, none⟩ (.slice (some ⟨b, 0, none⟩) m c)).heap.size = w.heap.size := by simp [World.setCell]
  have f1 := h.set_steps (.slice (some ⟨b, 0, none⟩) m c)
  have b0 := below_alloc (Below.refl (w.setCell ⟨g, 19, none⟩ (.slice (some ⟨b, 0, none⟩) m c)).heap.size (w.setCell ⟨g, 19, none⟩ (.slice (some ⟨b, 0, none⟩) m c))) (.cells #[.int .i64 N, .int .u32 D] 80 (0, 0))
  have n0 := blk_new (w.setCell ⟨g, 19, none⟩ (.slice (some ⟨b, 0, none⟩) m c)) (.cells #[.int .i64 N, .int .u32 D] 80 (0, 0))
  rw [hs] at n0
  refine ⟨cell_of_row _ w.heap.size 0 _ _ _ n0, cell_of_row _ w.heap.size 1 _ _ _ n0, f1.then b0.drew.drew, ?_, ⟨rfl, rfl, rfl, by have := b0.size; rw [hs] at this; exact this, fun i hi h1 _ => (b0.block i (by rw [hs]; exact hi)).trans (Below.heap_setCell w ⟨g, 19, none⟩ _ i h1)⟩⟩
  have r1 := own_pre hr m (by omega)
  have e1 : (stps xs).take (m * 2) = stps (xs.take m) := by
    conv => lhs; rw [← List.take_append_drop m xs, stps_append]
    rw [List.take_append_of_le_length (by rw [stps_length, List.length_take]; omega), List.take_of_length_le (by rw [stps_length, List.length_take]; omega)]
  rw [e1] at r1
  exact own_then (ownsRow_setCell_other r1 (by simp only [Value.ownBlock]; intro e; exact hne (by simpa using e)) _) b0.drew.drew
set_option maxRecDepth 100000 in
set_option maxHeartbeats 4000000 in
theorem undo_call (w : World) (base g : Nat) (R : Nat → Int) (p k u : Int) (v : Value) (xs : List (Nat × Int)) (h : GAt w base g R p k u v xs) (hx : ∀ e ∈ xs, e.1 < 16) (hl : xs.length ≤ 4096) :
    Calls Try.prog 19 #[.pointer (some ⟨g, 0, none⟩)] w fun e w' => e = .returned (.tuple #[]) ∧ (∃ v', GAt w' base g (backR R xs) p k u v' [] ∧ (v'.ownBlock = v.ownBlock)) ∧ Kept2 w w' g v.ownBlock := by
  have H := Aside0.mk h
  have SC := Aside0.mk steps_call
  clear h
  go_enter Try.func19, Try.ntmps19
  go_wp2_with fail
  go_loopw [2] (fun sv wr => ∃ (m : Nat) (v' : Value), m ≤ xs.length ∧ Aside0 (GAt wr base g (backR R (xs.drop m)) p k u v' (xs.take m) ∧ v'.ownBlock = v.ownBlock ∧ Kept2 w wr g v.ownBlock)) (fun _ wr => stepsLen wr g)
  case atStart => exact ⟨xs.length, v, Nat.le_refl _, ⟨by rw [List.drop_length, List.take_length]; exact H.out, rfl, Kept2.of_below (Below.refl _ _) _ _⟩⟩
  case round =>
    obtain ⟨m, v', hm, G⟩ := hrel
    have hlen : (xs.take m).length = m := by rw [List.length_take, Nat.min_eq_left hm]
    obtain ⟨A, c, rfl⟩ : ∃ A c, v' = .slice A m c := by have := own_val1 G.out.1.row; rw [hlen] at this; exact this
    have c19 : wr.cell? ⟨g, 19, none⟩ = some (.slice A m c) := G.out.1.file.cell 19
    have f19 := G.out.1.file.free 19
    have ST := Aside0.mk (SC.out wr g _ _ _ _ _ A m c G.out.1.file)
    match m, hm with
    | 0, _ =>
      have e0 : xs.drop 0 = xs := rfl
      have e1 : xs.take 0 = [] := rfl
      go_wp2_with (first
        | (go_at_call 20; (with_reducible refine (ST.out).mono ?_); rintro e w1 ⟨rfl, rfl⟩))
      first | go_end0 | refine bodyPost_ret (results_none rfl _ _ _) rfl ?_
      exact ⟨rfl, ⟨_, G.out.1, G.out.2.1⟩, G.out.2.2⟩
    | m + 1, hm =>
      obtain ⟨b, hA⟩ : ∃ b, A = some ⟨b, 0, none⟩ := by
        have := G.out.1.row
        rw [hlen] at this
        obtain ⟨b, c', e⟩ := own_some this
        simp only [Value.slice.injEq] at e
        exact ⟨b, e.1⟩
      subst hA
      have hrow : wr.ownsRow base 80 2 (.slice (some ⟨b, 0, none⟩) (m + 1) c) (m + 1) (stps (xs.take (m + 1))) := by have := G.out.1.row; rwa [hlen] at this
      have q0 := World.ownsRow.cellAt hrow (m * 2 + 0) (by omega)
      have q1 := World.ownsRow.cellAt hrow (m * 2 + 1) (by omega)
      rw [stps_last xs m (by omega)] at q0 q1
      simp only [stp, List.getElem?_cons_zero, List.getElem?_cons_succ, Nat.add_zero] at q0 q1
      have hx1 := hx xs[m] (List.getElem_mem _)
      have hdrop : backR R (xs.drop m) = back1 xs[m] (backR R (xs.drop (m + 1))) := by
        unfold backR; rw [List.drop_eq_getElem_cons (by omega)]; rfl
      have hf := G.out.1.file
      have hbl : b < wr.heap.size := by
        have := World.block_lt_of_cell? wr _ q0
        exact this
      have hgl := G.out.1.lt
      have cr := file_at hf xs[m].1 hx1
      have fr := hf.free xs[m].1
      have HD := Aside0.mk hdrop
      have HX := Aside0.mk hx1
      have HR := Aside0.mk hrow
      have hni : (xs[m].1 : Int) < 16 := by omega
      have hni0 : (0 : Int) ≤ xs[m].1 := by omega
      have hgw : ¬ g = wr.heap.size := by omega
      have hbw : ¬ b = wr.heap.size := by omega
      have HC : Aside0 ((m : Int) ≤ c) := ⟨by have := (Go.Proofs.Ytbgcbnlpjjhmhaa.LinesWalk.own_cm hrow).1; omega⟩
      have HF := Aside0.mk hf
      clear hdrop hx1 hrow hf
      generalize hN : xs[m].1 = N at *
      generalize hD : xs[m].2 = D at *
      generalize hQ : backR R (xs.drop (m + 1)) = Q at *
      have HH := Aside0.mk (And.intro hN (And.intro hD hQ))
      clear hN hD hQ
      go_wp2_with (first
        | (go_at_call 20; (with_reducible refine (ST.out).mono ?_); rintro e w1 ⟨rfl, rfl⟩))
      go_region
      all_goals (
        go_wp2
        have hmc := HC.out
        have hsw : IntKind.i64.wrap (m : Int) = m := by rw [IntKind.wrap_i64]; have := hl; omega
        have hm0 : (0 : Int) ≤ m := by omega
        go_region
        clear hsw
        go_wp2
        have F0 := undo_end wr base g Q p k u b m c N D (xs.take (m + 1)) hlen HF.out HR.out (by have := G.out.1.ge; exact this) (by have := G.out.1.ne; intro e; exact this (by rw [e]; rfl))
        generalize ((wr.setCell ⟨g, 19, none⟩ (.slice (some ⟨b, 0, none⟩) m c)).alloc (.cells #[.int .i64 N, .int .u32 D] 80 (0, 0))).drew.drew = W at *
        have F := Aside0.mk F0
        have d0 := F.out.1
        have d1 := F.out.2.1
        have d2 := file_at F.out.2.2.1 N HX.out
        have d3 := F.out.2.2.1.free N
        clear F0 c19 f19 q0 q1 cr fr
        have BK : backR R (xs.drop m) = updI Q N ((Q N - D) % 4294967296) := by rw [HD.out]; unfold back1; rw [HH.out.1, HH.out.2.1]
        have TK : (xs.take (m + 1)).take m = xs.take m := by rw [List.take_take, Nat.min_eq_left (by omega)]
        have BK := Aside0.mk BK
        have TK := Aside0.mk TK
        have ML := Aside0.mk hlen
        go_region
        go_wp2
        refine ⟨⟨m, .slice (some ⟨b, 0, none⟩) m c, by have := ML.out; omega, ⟨⟨by rw [BK.out]; exact file_put F.out.2.2.1 N HX.out _, G.out.1.ge, ?_⟩, G.out.2.1, ?_⟩⟩, ?_⟩
        · have r := F.out.2.2.2.1
          rw [TK.out] at r
          have hm2 : (xs.take m).length = m := by rw [List.length_take, Nat.min_eq_left (by omega)]
          rw [hm2]
          exact ownsRow_setCell_other r (show (Value.slice (some ⟨b, 0, none⟩) m c).ownBlock ≠ some g from G.out.1.ne) _
        · first | exact ((G.out.2.2.trans F.out.2.2.2.2 (.inl G.out.2.1)).set _ _) | exact ((G.out.2.2.trans F.out.2.2.2.2 (.inl G.out.2.1)).set _ _).drew | exact ((G.out.2.2.trans F.out.2.2.2.2 (.inl G.out.2.1)).set _ _).drew.drew
        · exact Nat.lt_of_le_of_lt (Nat.le_of_eq (stepsLen_eq (file_put F.out.2.2.1 N HX.out _))) (Nat.lt_of_lt_of_le (Nat.lt_succ_self m) (Nat.le_of_eq (stepsLen_eq HF.out).symm)))
end Go.Proofs.Ytbgcbnlpjjhmhaa.RegsWalk
