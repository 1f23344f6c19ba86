/- The translation buffer's functions of layer 4, walked: slices.Delete of slots. -/
import Derived.Test.YtiogbgjeimdgmaaTlbA
import Derived.Deep.RegionLaw
namespace Go.Proofs.Ytiogbgjeimdgmaa.TlbWalk
open Go.RowKit Go.Proofs.Ytiogbgjeimdgmaa.Aid Go.Proofs.YtiogbgjeimdgmaaW.PrintWords Go.Proofs.YtiogbgjeimdgmaaW.PrintLast Go.Proofs.YtiogbgjeimdgmaaW.PrintMore
attribute [local go_sem] max2_int min2_int max_two min_two max_three min_three max_four min_four   -- for this text's walks alone
set_option linter.unusedVariables false
set_option linter.unusedSimpArgs false

theorem infoS : (Try.prog.info? 136).map (fun i => (i.zero, i.size, i.bytes)) = some (some (.agg #[.int .u32 0, .int .u32 0]), 2, 8) := by kernel_rfl
theorem own_pre {W : World} {base e size b n c : Nat} {xs : List Value} (h : W.ownsRow base e size (.slice (some ⟨b, 0, none⟩) n c) n xs) (k : Nat) (hk : k ≤ n) : W.ownsRow base e size (.slice (some ⟨b, 0, none⟩) k c) k (xs.take (k * size)) := by
  have hkm : k * size ≤ n * size := Nat.mul_le_mul_right _ hk
  refine ⟨by rw [List.length_take, h.1]; omega, .inr ?_⟩
  rcases h.2 with ⟨hv, _⟩ | ⟨b', c', cur, hv, h0, hh, h1, h2, h3, h4⟩
  · simp at hv
  · simp only [Value.slice.injEq, Option.some.injEq, Addr.mk.injEq, and_true, true_and] at hv
    obtain ⟨rfl, rfl⟩ := hv
    refine ⟨b, c, cur, rfl, h0, hh, by omega, h2, h3, ?_⟩
    rw [← h4, List.take_take, Nat.min_eq_left hkm]

theorem clear_run (W : World) (base b n c cc ty : Nat) (xs : List Value) (h : W.ownsRow base 136 2 (.slice (some ⟨b, 0, none⟩) n c) n xs) (hr : n + 1 ≤ c) :
    ∃ W', (Builtin.clear_ #[130] ty #[.slice (some ⟨b, n * 2, none⟩) 1 cc]).run Try.prog W = .ok (.tuple #[]) W' ∧ W'.ownsRow base 136 2 (.slice (some ⟨b, 0, none⟩) n c) n xs ∧ W.grownBy W' (some b) := by
  obtain ⟨i0, hi, hzz⟩ := Option.map_eq_some_iff.1 infoS
  simp only [Prod.mk.injEq] at hzz
  obtain ⟨hz0, hz1, hz2⟩ := hzz
  rcases h.2 with ⟨hv, _⟩ | ⟨b', c', cur, hv, h0, hh, h1, h2, h3, h4⟩
  · simp at hv
  simp only [Value.slice.injEq, Option.some.injEq, Addr.mk.injEq, and_true, true_and] at hv
  obtain ⟨rfl, rfl⟩ := hv
  obtain ⟨Z, hZ⟩ : ∃ Z : List Value, Z = [.int .u32 0, .int .u32 0] := ⟨_, rfl⟩
  have hZl : Z.length = 2 := by rw [hZ]; rfl
  have hZ1 : ∀ v ∈ Z, v.oneCell' = true := by
    intro v hv
    rw [hZ] at hv
    simp only [List.mem_cons, List.not_mem_nil, or_false, or_self] at hv
    rw [hv]; rfl
  have hst := run_storeCells_at Try.prog b (n * 2) 136 Z 0 cur W hh (by rw [hZl]; omega) hZ1
  rw [Nat.add_zero, hZl] at hst
  have hcl : cur.toList.length = c * 2 := by rw [Array.length_toList, h3]
  refine ⟨W.setRow b (cur.toList.take (n * 2) ++ Z ++ cur.toList.drop (n * 2 + 2)).toArray, ?_, ⟨h.1, .inr ⟨b, c, _, rfl, h0, setRow_heap W b cur _ 136 _ hh, h1, h2, ?_, ?_⟩⟩, ⟨rfl, rfl, rfl, by simp, fun k _ hk => setRow_other W b k _ (fun e => hk (by simp [e]))⟩⟩
  · rw [hZ] at hst ⊢
    simp [Builtin.clear_, run_underlying Try.underlying130, zeroValue, typeInfo, hi, hz0, Builtin.zeroCells, Value.cells]
    rw [show (List.map (fun i => [Value.int IntKind.u32 0, Value.int IntKind.u32 0][i % 2]?.getD default) (List.range 2)) = [Value.int IntKind.u32 0, Value.int IntKind.u32 0] from rfl, hst]
    simp [Result.andThen]
  · rw [List.size_toArray, List.length_append, List.length_append, List.length_take, List.length_drop, hcl, hZl]; omega
  · rw [← h4]
    show ((cur.toList.take (n * 2) ++ Z ++ cur.toList.drop (n * 2 + 2))).take (n * 2) = _
    rw [List.append_assoc, List.take_append_of_le_length (by rw [List.length_take, hcl]; omega), List.take_take, Nat.min_self]
theorem step_append_run {P : Program} {ops : Array Oper} {o : Oper} {a : Act} {w : World} {K : Act → World → Prop} {Q : Exit → Act → World → Prop} {E : Prop}
    (hg : o.guard = none) (s x : Operand) (t : TypeId) (hop : o.op = Op.call { callee := Callee.builtin Builtin.append, args := #[s, x], argTypes := #[t, t] })
    (vs vx v : Value) (w' : World) (hs : a.eval s = vs) (hx : a.eval x = vx) (hrun : (Builtin.append_ #[t, t] o.type #[vs, vx]).run P w = .ok v w') (hK : K (a.put o.dst v) w') :
    if Region.wanted o (yielded ops a.tmps) = true then Oper.wp P o a w K Q else E := by
  have hw : Region.wanted o (yielded ops a.tmps) = true := by simp [Region.wanted, hg]
  rw [if_pos hw]
  unfold Oper.wp
  simp [execOp, hop, resolve, invoke, builtin, hs, hx, hrun, Result.andThen]
  exact hK
theorem own_news {W : World} {base b n c : Nat} {xs : List Value} (h : W.ownsRow base 136 2 (.slice (some ⟨b, 0, none⟩) n c) n xs) (k : Nat) : ∀ j u, (xs.drop k)[j]? = some u → W.cell? ((⟨b, k, none⟩ : Addr).add j) = some u := by
  intro j u hu
  rw [List.getElem?_drop] at hu
  have hl := (List.getElem?_eq_some_iff.1 hu).1
  have hx := h.1
  rw [show ((⟨b, k, none⟩ : Addr).add j) = ⟨b, k + j, none⟩ from by unfold Addr.add; by_cases hi : j = 0 <;> simp [hi], h.cellAt (k + j) (by omega), hu]
set_option maxRecDepth 100000 in
theorem del_call (w : World) (base b n c i : Nat) (ps : List (Int × Int)) (h : w.ownsRow base 136 2 (.slice (some ⟨b, 0, none⟩) n c) n (cells2 ps)) (hi : i < n) (hn : n ≤ 8) :
    Calls Try.prog 79 #[.slice (some ⟨b, 0, none⟩) n c, .int .i64 i, .int .i64 ((i : Int) + 1)] w fun e w' =>
      e = .returned (.slice (some ⟨b, 0, none⟩) (n - 1) c) ∧ w'.ownsRow base 136 2 (.slice (some ⟨b, 0, none⟩) (n - 1) c) (n - 1) (cells2 (ps.take i ++ ps.drop (i + 1))) ∧ w.grownBy w' (some b) := by
  have hnc : n ≤ c := own_cap h
  have hcm : c ≤ maxLen := by
    rcases h.2 with ⟨hv, _⟩ | ⟨b', c', cur, hv, h0, hh, h1, h2, h3, h4⟩
    · simp at hv
    · simp only [Value.slice.injEq] at hv
      omega
  unfold maxLen at hcm
  obtain ⟨i0, hii, hzz⟩ := Option.map_eq_some_iff.1 infoS
  simp only [Prod.mk.injEq] at hzz
  obtain ⟨hz0, hz1, hz2⟩ := hzz
  have hd : w.drew.ownsRow base 136 2 (.slice (some ⟨b, 0, none⟩) n c) n (cells2 ps) := h
  have hpl : ps.length = n := by have := h.1; rw [cells2_length] at this; omega
  obtain ⟨AD, hAD, hnews⟩ : ∃ AD : Addr, (if c = i + 1 then (some ⟨b, 0, none⟩ : Option Addr) else some ⟨b, (i + 1) * 2, none⟩) = some AD ∧ ∀ j u, (cells2 (ps.drop (i + 1)))[j]? = some u → w.drew.cell? (AD.add j) = some u := by
    by_cases hc : c = i + 1
    · refine ⟨_, by rw [if_pos hc], fun j u hu => ?_⟩
      rw [List.drop_eq_nil_of_le (by omega)] at hu
      simp [cells2] at hu
    · refine ⟨_, by rw [if_neg hc], fun j u hu => ?_⟩
      rw [← cells2_drop] at hu
      exact own_news hd ((i + 1) * 2) j u hu
  obtain ⟨W1, r1, r2, r3⟩ := run_append_fits (P := Try.prog) (w := w.drew) base 130 130 136 i0 2 Try.underlying130 hii hz1 b i c ((cells2 ps).take (i * 2)) (own_pre hd i (by omega)) AD (n - (i + 1)) (c - (i + 1)) (cells2 (ps.drop (i + 1)))
    (by rw [cells2_length, List.length_drop, hpl]) hnews (cells2_one _) (by omega)
  rw [show i + (n - (i + 1)) = n - 1 from by omega] at r1 r2
  rw [cells2_take, ← cells2_append] at r2
  obtain ⟨W2, s1, s2, s3⟩ := clear_run W1 base b (n - 1) c (c - (n - 1)) 0 _ r2 (by omega)
  have S2 := Aside0.mk s2
  have S3 := Aside0.mk (World.grownBy.trans r3 s3)
  have R1 := Aside0.mk r1
  have HAD := Aside0.mk hAD
  clear h hd r1 r2 r3 s2 s3 hnews hz0 hz1 hz2 hii hAD
  have hic : i ≤ c := by omega
  have hj0 : (0 : Int) ≤ (i : Int) + 1 := by omega
  have hj1 : (i : Int) + 1 ≤ (n : Int) := by omega
  have hic1 : i + 1 ≤ c := by omega
  have hin1 : i + 1 ≤ n := hi
  go_enter Try.func79, Try.ntmps79
  go_wp2
  go_region_law (refine step_append_run rfl (.tmp 22) (.tmp 25) 130 rfl _ _ _ _ (by simp [Act.eval, Act.put]) (by simp [Act.eval, Act.put, HAD.out]) R1.out ?_)
  have hn1 : ((n - 1 : Nat) : Int) ≤ (n : Int) := by omega
  have hn2 : (n : Int) ≤ (c : Int) := by omega
  have hn3 : n - (n - 1) = 1 := by omega
  have hn4 : ¬ c = n - 1 := by omega
  go_wp2
  all_goals (go_ret; refine ⟨rfl, ?_, ⟨S3.out.os, S3.out.tape, S3.out.output, S3.out.size, S3.out.block⟩⟩; first | exact S2.out | (have s_ := S2.out; rw [show c = i + 1 from by assumption] at s_; exact s_))
end Go.Proofs.Ytiogbgjeimdgmaa.TlbWalk
