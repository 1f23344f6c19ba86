/- The lines' functions of layer 22, walked: the queue's Pop; heap's up, down. -/
import Derived.Test.YtbgcbnlpjjhmhaaLinesB
namespace Go.Proofs.Ytbgcbnlpjjhmhaa.LinesWalk
open Go.RowKit Go.Proofs.Ytbgcbnlpjjhmhaa.Aid Go.Proofs.YtbgcbnlpjjhmhaaW.PrintWords Go.Proofs.YtbgcbnlpjjhmhaaW.PrintLast Go.Proofs.YtbgcbnlpjjhmhaaW.PrintMore Go.Proofs.Ytbgcbnlpjjhmhaa.HeapLaw
attribute [local go_sem] max2_int min2_int max_two min_two max_three min_three max_four min_four   -- for this text's walks alone
set_option linter.unusedVariables false
set_option linter.unusedSimpArgs false
theorem own_pre {W : World} {base e size b n c : Nat} {xs : List Value} (h : W.ownsRow base e size (.slice (some ⟨b, 0, none⟩) n c) n xs) (k : Nat) (hk : k ≤ n) : W.ownsRow base e size (.slice (some ⟨b, 0, none⟩) k c) k (xs.take (k * size)) := by
  have hkm : k * size ≤ n * size := Nat.mul_le_mul_right _ hk
  refine ⟨by rw [List.length_take, h.1]; omega, .inr ?_⟩
  rcases h.2 with ⟨hv, _⟩ | ⟨b', c', cur, hv, h0, hh, h1, h2, h3, h4⟩
  · simp at hv
  · simp only [Value.slice.injEq, Option.some.injEq, Addr.mk.injEq, and_true, true_and] at hv
    obtain ⟨rfl, rfl⟩ := hv
    refine ⟨b, c, cur, rfl, h0, hh, by omega, h2, h3, ?_⟩
    rw [← h4, List.take_take, Nat.min_eq_left hkm]
theorem own_cm {W : World} {base e size b n c : Nat} {xs : List Value} (h : W.ownsRow base e size (.slice (some ⟨b, 0, none⟩) n c) n xs) : n ≤ c ∧ c ≤ maxLen ∧ b < W.heap.size := by
  rcases h.2 with ⟨hv, _⟩ | ⟨b', c', cur, hv, h0, hh, h1, h2, h3, h4⟩
  · simp at hv
  · simp only [Value.slice.injEq, Option.some.injEq, Addr.mk.injEq, and_true, true_and] at hv
    obtain ⟨rfl, rfl⟩ := hv
    exact ⟨h1, h2, (Array.getElem?_eq_some_iff.1 hh).1⟩
def agg4 (e : Ent) : Value := .agg #[.int .i64 e.cy, .int .i64 e.lv, .bool e.on, .int .i64 e.nm]
theorem infoEz : (Try.prog.info? 88).map (·.size) = some 4 := by kernel_rfl
theorem qpop_call (w : World) (base g n : Nat) (v : Value) (q : List Ent) (rest : List Value) (h : QAt w base g v q rest) (hq : q.length = n + 1) :
    Calls Try.prog 76 #[.pointer (some ⟨g, 0, none⟩)] w fun e' w' => e' = .returned (.iface 88 (agg4 (gE q n))) ∧ QPost w w' base g v (q.take n) rest := by
  have hl := h.len
  have hrow : w.ownsRow base 88 4 v (n + 1) (cells4 q) := by have := h.row; unfold QRow at this; rwa [hq] at this
  obtain ⟨b, c, rfl⟩ := own_some hrow
  obtain ⟨hnc, hcm, hbl⟩ := own_cm hrow
  unfold maxLen at hcm
  have hf := h.field
  have hfa : ∀ o, (w.alloc o).cell? ⟨g, 0, none⟩ = some (.slice (some ⟨b, 0, none⟩) (n + 1) c) := fun o => ((below_alloc (Below.refl w.heap.size w) o).cell (p := ⟨g, 0, none⟩) h.lt).trans h.field
  have hfr := h.free 0
  have hfra : ∀ o, (w.alloc o).frozen? ⟨g, 0, none⟩ = false := fun o => ((below_alloc (Below.refl w.heap.size w) o).frozen (p := ⟨g, 0, none⟩) h.lt).trans hfr
  have l0 := h.row.cell n 0 (by omega) (by decide)
  have l1 := h.row.cell n 1 (by omega) (by decide)
  have l2 := h.row.cell n 2 (by omega) (by decide)
  have l3 := h.row.cell n 3 (by omega) (by decide)
  simp only [ent4, List.getElem?_cons_zero, List.getElem?_cons_succ, Nat.add_zero] at l0 l1 l2 l3
  have al : ∀ (o : Obj) (k : Nat), (w.alloc o).cell? ⟨b, k, none⟩ = w.cell? ⟨b, k, none⟩ := fun o k => (below_alloc (Below.refl w.heap.size w) o).cell (p := ⟨b, k, none⟩) hbl
  have H := Aside0.mk h
  have HR := Aside0.mk hrow
  have HQ := Aside0.mk hq
  unfold agg4
  clear h hrow hq
  generalize (gE q n).cy = a0 at *
  generalize (gE q n).lv = a1 at *
  generalize (gE q n).on = a2 at *
  generalize (gE q n).nm = a3 at *
  have hg : g < w.heap.size := H.out.lt
  have hgw : ¬ g = w.heap.size := by omega
  have hwg : ¬ w.heap.size = g := by omega
  go_enter Try.func76, Try.ntmps76
  go_wp2
  go_region
  go_wp2
  go_region
  go_wp2
  go_ret
  refine ⟨rfl, ?_⟩
  obtain ⟨W1, hW1⟩ : ∃ W1, W1 = w.setCell ⟨g, 0, none⟩ (.slice (some ⟨b, 0, none⟩) n c) := ⟨_, rfl⟩
  have hne : (Value.slice (some ⟨b, 0, none⟩) n c).ownBlock ≠ some g := H.out.ne
  have r1 := own_pre HR.out n (by omega)
  rw [cells4_take] at r1
  have r2 := ownsRow_setCell_other (a := ⟨g, 0, none⟩) r1 hne (.slice (some ⟨b, 0, none⟩) n c)
  have b1 : (w.setCell ⟨g, 0, none⟩ (.slice (some ⟨b, 0, none⟩) n c)).heap[g]? = some (.cells (Value.slice (some ⟨b, 0, none⟩) n c :: rest).toArray 84 (0, 0)) := blk_put H.out.blk 0 (.slice (some ⟨b, 0, none⟩) n c) (by simp)
  have k1 : Kept2 w (w.setCell ⟨g, 0, none⟩ (.slice (some ⟨b, 0, none⟩) n c)) g (Value.slice (some ⟨b, 0, none⟩) (n + 1) c).ownBlock := (Kept2.of_below (Below.refl _ _) _ _).set 0 (.slice (some ⟨b, 0, none⟩) n c)
  rw [← hW1] at r2 b1 k1 ⊢
  have B := below_alloc (Below.refl W1.heap.size W1) (.cells #[.int .i64 a0, .int .i64 a1, .bool a2, .int .i64 a3] 88)
  have hlen : (q.take n).length = n := by rw [List.length_take, HQ.out]; omega
  refine ⟨.slice (some ⟨b, 0, none⟩) n c, ⟨(B.block g (Array.getElem?_eq_some_iff.1 b1).1).trans b1, H.out.ge, ?_, by have := HQ.out; omega⟩, ((k1.trans (Kept2.of_below B g none) (.inr (fun k hk => by simp at hk))).drew).drew, .inl rfl⟩
  unfold QRow
  rw [hlen]
  exact own_then r2 B.drew.drew
end Go.Proofs.Ytbgcbnlpjjhmhaa.LinesWalk
