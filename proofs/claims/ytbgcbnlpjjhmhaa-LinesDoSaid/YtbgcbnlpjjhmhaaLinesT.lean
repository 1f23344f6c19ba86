/- The document's lines (camshaftref22), walked: At. -/
import Derived.Test.YtbgcbnlpjjhmhaaLinesL
namespace Go.Proofs.Ytbgcbnlpjjhmhaa.LinesWalk
open Go.RowKit Go.Proofs.Ytbgcbnlpjjhmhaa.Aid Go.Proofs.YtbgcbnlpjjhmhaaW.PrintWords Go.Proofs.YtbgcbnlpjjhmhaaW.PrintLast Go.Proofs.YtbgcbnlpjjhmhaaW.PrintMore Go.Proofs.Ytbgcbnlpjjhmhaa.HeapLaw
attribute [local go_sem] max2_int min2_int max_two min_two max_three min_three max_four min_four   -- for this text's walks alone
set_option linter.unusedVariables false
set_option linter.unusedSimpArgs false
/-- The lines as a number, from the highest on. -/
def hornB (on : Nat → Bool) : Nat → Nat
  | 0 => 0
  | j + 1 => 2 * hornB on j + (if on (31 - j) then 1 else 0)
theorem hornB_lt (on : Nat → Bool) : ∀ j, hornB on j < 2 ^ j
  | 0 => by simp [hornB]
  | j + 1 => by
    have := hornB_lt on j
    unfold hornB
    rw [Nat.pow_succ]
    split <;> omega
theorem hornB_eq (on : Nat → Bool) : ∀ j, j ≤ 32 → hornB on j * 2 ^ (32 - j) + onN on (32 - j) = onN on 32
  | 0, _ => by simp [hornB]
  | j + 1, h => by
    have ih := hornB_eq on j (by omega)
    have e1 : 32 - j = (32 - (j + 1)) + 1 := by omega
    have e2 : 31 - j = 32 - (j + 1) := by omega
    rw [e1, Nat.pow_succ] at ih
    have e3 : onN on (32 - (j + 1) + 1) = onN on (32 - (j + 1)) + (if on (32 - (j + 1)) then 2 ^ (32 - (j + 1)) else 0) := rfl
    rw [e3] at ih
    unfold hornB
    rw [e2, ← ih]
    generalize 2 ^ (32 - (j + 1)) = p
    by_cases hb : on (32 - (j + 1)) = true
    · rw [if_pos hb, if_pos hb, Nat.add_mul, Nat.one_mul, show 2 * hornB on j * p = hornB on j * (p * 2) from by rw [Nat.mul_comm 2, Nat.mul_assoc, Nat.mul_comm 2 p]]
      omega
    · rw [if_neg hb, if_neg hb, Nat.add_zero, show 2 * hornB on j * p = hornB on j * (p * 2) from by rw [Nat.mul_comm 2, Nat.mul_assoc, Nat.mul_comm 2 p]]
      omega
theorem onL_set (on : Nat → Bool) (L : Nat) (b : Bool) (hL : L < 32) : (onL on).set L (.bool b) = onL (updB on L b) := by
  unfold onL
  refine List.ext_getElem (by simp) fun i h1 h2 => ?_
  rw [List.getElem_set, List.getElem_map, List.getElem_map, List.getElem_range]
  unfold updB
  by_cases h : L = i
  · subst h; rw [if_pos rfl, if_pos rfl]
  · rw [if_neg h, if_neg (fun q => h q.symm)]
theorem on_put (v : Value) (now : Int) (on : Nat → Bool) (L : Nat) (b : Bool) (hL : L < 32) : (v :: Value.int .i64 now :: onL on).toArray.setIfInBounds (2 + L) (.bool b) = (v :: Value.int .i64 now :: onL (updB on L b)).toArray := by
  rw [List.setIfInBounds_toArray, show 2 + L = L + 1 + 1 from by omega, List.set_cons_succ, List.set_cons_succ, onL_set on L b hL]
def LvOk (xs : List Ent) : Prop := ∀ j, j < xs.length → 1 ≤ (gE xs j).lv ∧ (gE xs j).lv ≤ 31
theorem LvOk.erase {xs : List Ent} (h : LvOk xs) (i : Nat) (hi : i < xs.length) : LvOk (xs.eraseIdx i) := by
  intro j hj
  rw [List.length_eraseIdx_of_lt hi] at hj
  rw [gE_erase]; split
  · exact h j (by omega)
  · exact h (j + 1) (by omega)
theorem add_off (b k j : Nat) : ((⟨b, k, none⟩ : Addr).add j) = ⟨b, k + j, none⟩ := by
  unfold Addr.add; by_cases hi : j = 0 <;> simp [hi]
theorem row_take {W : World} {base e size b n c : Nat} {xs : List Value} (h : W.ownsRow base e size (.slice (some ⟨b, 0, none⟩) n c) n xs) (k : Nat) : ∀ j u, (xs.take k)[j]? = some u → W.cell? ((⟨b, 0, none⟩ : Addr).add j) = some u := by
  intro j u hu
  rw [List.getElem?_take] at hu
  split at hu
  · have hl := (List.getElem?_eq_some_iff.1 hu).1
    have hx := h.1
    rw [add_off, Nat.zero_add, h.cellAt j (by omega), hu]
  · cases hu
theorem row_drop {W : World} {base e size b n c : Nat} {xs : List Value} (h : W.ownsRow base e size (.slice (some ⟨b, 0, none⟩) n c) n xs) (k : Nat) : ∀ j u, (xs.drop k)[j]? = some u → W.cell? ((⟨b, k, none⟩ : Addr).add j) = some u := by
  intro j u hu
  rw [List.getElem?_drop] at hu
  have hl := (List.getElem?_eq_some_iff.1 hu).1
  have hx := h.1
  rw [add_off, h.cellAt (k + j) (by omega), hu]
theorem own_nil0 (W : World) (base : Nat) (hb : base ≤ W.heap.size) : (W.alloc (.cells #[] 47 (0, 0))).drew.ownsRow base 47 3 (.slice (some ⟨W.heap.size, 0, none⟩) 0 0) 0 [] :=
  ⟨rfl, .inr ⟨W.heap.size, 0, #[], rfl, hb, heap_alloc_new W _, Nat.le_refl _, Nat.zero_le _, rfl, rfl⟩⟩
theorem own_val' {W : World} {base e s n : Nat} {v : Value} {xs : List Value} (h : W.ownsRow base e s v n xs) : ∃ A c, v = .slice A n c := by
  rcases h.2 with ⟨rfl, rfl⟩ | ⟨b, c, cur, rfl, _⟩
  · exact ⟨none, 0, rfl⟩
  · exact ⟨_, c, rfl⟩
/-- What the second statement of the round does: the list without its i-th change, in a new row. -/
theorem erase_runs (W : World) (base g i : Nat) (v : Value) (s : St) (h : RAt W base g v s) (hi : i < s.xs.length) : ∃ (b cc : Nat) (AD : Addr) (A1 : Option Addr) (c1 : Nat) (A2 : Option Addr) (c2 : Nat) (W1 W2 : World),
    v = .slice (some ⟨b, 0, none⟩) s.xs.length cc ∧ s.xs.length ≤ cc ∧ cc ≤ maxLen ∧ (if cc = i + 1 then (some ⟨b, 0, none⟩ : Option Addr) else some ⟨b, (i + 1) * 3, none⟩) = some AD ∧
    (Builtin.append_ #[42, 42] 42 #[.slice (some ⟨W.heap.size, 0, none⟩) 0 0, .slice (some ⟨b, 0, none⟩) i cc]).run Try.prog (W.alloc (.cells #[] 47 (0, 0))).drew = .ok (.slice A1 i c1) W1 ∧
    (Builtin.append_ #[42, 42] 42 #[.slice A1 i c1, .slice (some AD) (s.xs.length - (i + 1)) (cc - (i + 1))]).run Try.prog W1 = .ok (.slice A2 (s.xs.length - 1) c2) W2 ∧
    (∀ o, (W.alloc o).cell? ⟨g, 0, none⟩ = some v) ∧ W1.cell? ⟨g, 0, none⟩ = some v ∧ W2.cell? ⟨g, 0, none⟩ = some v ∧ W2.frozen? ⟨g, 0, none⟩ = false ∧
    RAt (W2.setCell ⟨g, 0, none⟩ (.slice A2 (s.xs.length - 1) c2)) base g (.slice A2 (s.xs.length - 1) c2) ⟨s.xs.eraseIdx i, s.now, s.on, s.nums⟩ ∧
    (∀ (w : World) (r : Option Nat), Kept2 w W g r → Kept2 w (W2.setCell ⟨g, 0, none⟩ (.slice A2 (s.xs.length - 1) c2)) g r) ∧ (∃ k, (Value.slice A2 (s.xs.length - 1) c2).ownBlock = some k ∧ W.heap.size ≤ k) := by
  obtain ⟨b, cc, rfl⟩ := h.shape rfl (show 0 < s.xs.length by omega)
  obtain ⟨hncc, hccm, hbl⟩ := own_cm h.row
  have hlen := h.len
  have hlt := h.lt
  have hge := h.ge
  obtain ⟨i0, hii, hzz⟩ := Option.map_eq_some_iff.1 infoR
  simp only [Prod.mk.injEq] at hzz
  obtain ⟨hz0, hz1, hz2⟩ := hzz
  have hB := below_alloc (Below.refl W.heap.size W) (.cells #[] 47 (0, 0))
  have Ra := h.then hB.drew
  have hml : s.xs.length ≤ maxLen := by unfold maxLen; omega
  obtain ⟨v1, W1, q1, q2, q3, q4, q5⟩ := run_append_own_at (P := Try.prog) (w := (W.alloc (.cells #[] 47 (0, 0))).drew) base 42 42 47 i0 (.agg #[.int .i64 0, .int .i64 0, .bool false]) 3 24 Try.underlying42 hii hz0 hz1 hz2 rfl (by decide) (.slice (some ⟨W.heap.size, 0, none⟩) 0 0) 0 [] (own_nil0 W base (by omega))
    ⟨b, 0, none⟩ i cc (cells3 (s.xs.take i)) (by rw [cells3_length, List.length_take]; omega) (by rw [← cells3_take]; exact row_take Ra.row _) (cells3_one _) (by omega) (by omega) (by simp; omega)
  rw [Nat.zero_add] at q2
  obtain ⟨A1, c1, rfl⟩ := own_val' q2
  have hblk1 : ∀ k, k < W.heap.size → W1.heap[k]? = W.heap[k]? := fun k hk => by
    refine (q3.block k (by simp; omega) (by simp [Value.ownBlock]; omega)).trans ?_
    exact hB.block k hk
  have R1 : RAt W1 base g (.slice (some ⟨b, 0, none⟩) s.xs.length cc) s := by
    refine ⟨(hblk1 g hlt).trans h.blk, h.ge, ?_, h.len⟩
    obtain ⟨o1, o2⟩ := h.row
    refine ⟨o1, ?_⟩
    rcases o2 with o2 | ⟨b', c', cur, hv, hb, hh, r⟩
    · exact .inl o2
    · exact .inr ⟨b', c', cur, hv, hb, (hblk1 b' (Array.getElem?_eq_some_iff.1 hh).1).trans hh, r⟩
  obtain ⟨AD, hAD, hnews⟩ : ∃ AD : Addr, (if cc = i + 1 then (some ⟨b, 0, none⟩ : Option Addr) else some ⟨b, (i + 1) * 3, none⟩) = some AD ∧ ∀ j u, (cells3 (s.xs.drop (i + 1)))[j]? = some u → W1.cell? (AD.add j) = some u := by
    by_cases hc : cc = i + 1
    · refine ⟨_, by rw [if_pos hc], fun j u hu => ?_⟩
      rw [List.drop_eq_nil_of_le (by omega)] at hu
      simp [cells3] at hu
    · refine ⟨_, by rw [if_neg hc], fun j u hu => ?_⟩
      rw [← cells3_drop] at hu
      exact row_drop R1.row ((i + 1) * 3) j u hu
  have hw1 : W.heap.size ≤ W1.heap.size := by have := q3.size; simp at this; omega
  obtain ⟨v2, W2, p1, p2, p3, p4, p5⟩ := run_append_own_at (P := Try.prog) (w := W1) base 42 42 47 i0 (.agg #[.int .i64 0, .int .i64 0, .bool false]) 3 24 Try.underlying42 hii hz0 hz1 hz2 rfl (by decide) (.slice A1 i c1) i ([] ++ cells3 (s.xs.take i)) q2
    AD (s.xs.length - (i + 1)) (cc - (i + 1)) (cells3 (s.xs.drop (i + 1))) (by rw [cells3_length, List.length_drop]) hnews (cells3_one _) (by omega) (by omega) (by omega)
  rw [show i + (s.xs.length - (i + 1)) = s.xs.length - 1 from by omega, List.nil_append, ← cells3_append, ← List.eraseIdx_eq_take_drop_succ] at p2
  obtain ⟨A2, c2, rfl⟩ := own_val' p2
  have hnew1 : ∀ k, (Value.slice A1 i c1).ownBlock = some k → W.heap.size ≤ k := fun k hk => by
    rcases q5 with q5 | q5
    · rw [q5] at hk; simp [Value.ownBlock] at hk; omega
    · rw [q5] at hk; simp at hk; omega
  have hnew2 : ∀ k, (Value.slice A2 (s.xs.length - 1) c2).ownBlock = some k → W.heap.size ≤ k := fun k hk => by
    rcases p5 with p5 | p5
    · exact hnew1 k (p5 ▸ hk)
    · rw [p5] at hk; simp at hk; omega
  have hblk2 : ∀ k, k < W.heap.size → W2.heap[k]? = W.heap[k]? := fun k hk => (p3.block k (by omega) (fun e => by have := hnew1 k e.symm; omega)).trans (hblk1 k hk)
  have hg2 : W2.heap[g]? = some (.cells (Value.slice (some ⟨b, 0, none⟩) s.xs.length cc :: .int .i64 s.now :: onL s.on).toArray 45 (0, 0)) := (hblk2 g hlt).trans h.blk
  have hc2 : W2.cell? ⟨g, 0, none⟩ = some (.slice (some ⟨b, 0, none⟩) s.xs.length cc) := by have := cell_of_row W2 g 0 _ _ _ hg2; rw [this]; simp
  refine ⟨b, cc, AD, A1, c1, A2, c2, W1, W2, rfl, hncc, hccm, hAD, q1, p1, fun o => ((below_alloc (Below.refl W.heap.size W) o).cell (p := ⟨g, 0, none⟩) hlt).trans h.f0, R1.f0, hc2, frozen_of_row W2 g 0 _ _ hg2, ⟨blk_put hg2 0 (.slice A2 (s.xs.length - 1) c2) (by simp), h.ge, ?_, ?_⟩, fun w r k => ?_, ?_⟩
  · show World.ownsRow _ _ _ _ _ (s.xs.eraseIdx i).length (cells3 (s.xs.eraseIdx i))
    rw [List.length_eraseIdx_of_lt hi]
    exact ownsRow_setCell_other p2 (fun e => by have := hnew2 g e; omega) _
  · show (s.xs.eraseIdx i).length ≤ 4096
    rw [List.length_eraseIdx_of_lt hi]; omega
  · have k1 := k.trans (Kept2.of_below hB.drew g none) (.inr (fun k hk => by simp at hk))
    have hs := k.size
    have k2 := k1.grown q3 (.inr (fun b' hb' => by simp [Value.ownBlock] at hb'; omega))
    have k3 := k2.grown p3 (.inr (fun b' hb' => by have := hnew1 b' hb'; omega))
    exact k3.set _ _
  · have hn1 : (Value.slice A1 i c1) ≠ .slice none 0 0 := fun e => by have := (q4.1 e).1; simp at this
    have hn2 : (Value.slice A2 (s.xs.length - 1) c2) ≠ .slice none 0 0 := fun e => hn1 (p4.1 e).1
    rcases p2.2 with ⟨hv, _⟩ | ⟨k, c', cur, hv, _⟩
    · exact absurd hv hn2
    · exact ⟨k, by rw [hv]; rfl, hnew2 k (by rw [hv]; rfl)⟩
set_option maxRecDepth 100000 in
set_option maxHeartbeats 4000000 in
theorem rat22_call (w : World) (base g : Nat) (v : Value) (s : St) (c : Int) (h : RAt w base g v s) (hlv : LvOk s.xs) :
    Calls Try.prog 26 #[.pointer (some ⟨g, 0, none⟩), .int .i64 c] w fun e w' => e = .returned (.int .u32 (onN (atS s c).on 32 : Nat)) ∧ RPost w w' base g v (atS s c) := by
  have E : atS s c = ⟨(popF s.xs.length (nowS s c) s.xs s.on).1, nowS s c, (popF s.xs.length (nowS s c) s.xs s.on).2, s.nums⟩ := rfl
  rw [E]
  clear E
  have f1 := h.f1
  have fr1 := h.fr 1
  have hb2 : (w.setCell ⟨g, 1, none⟩ (.int .i64 c)).heap[g]? = some (.cells (v :: .int .i64 c :: onL s.on).toArray 45 (0, 0)) := blk_put h.blk 1 (.int .i64 c) (by simp)
  have R2 := Aside0.mk (show RAt (w.setCell ⟨g, 1, none⟩ (.int .i64 c)) base g v ⟨s.xs, c, s.on, s.nums⟩ from ⟨hb2, h.ge, ownsRow_setCell_other h.row h.ne _, h.len⟩)
  have K2 := Aside0.mk (show Kept2 w (w.setCell ⟨g, 1, none⟩ (.int .i64 c)) g v.ownBlock from (Kept2.of_below (Below.refl _ _) _ _).set _ _)
  have R1 := Aside0.mk h
  have K1 := Aside0.mk (Kept2.of_below (Below.refl w.heap.size w) g v.ownBlock)
  have HL := Aside0.mk hlv
  clear h hb2 hlv
  by_cases hc : s.now < c
  · have hnow : nowS s c = c := by unfold nowS; rw [if_pos hc]
    rw [hnow]
    clear hnow
    go_enter Try.func26, Try.ntmps26
    go_wp2_with fail
    generalize w.setCell ⟨g, 1, none⟩ (.int .i64 c) = W0 at *
    have NC := Aside0.mk (rnext_call W0 base g v _ R2.out)
    go_wp2_with (first
      | (go_at_call 39; (with_reducible refine (NC.out).mono ?_); rintro e w1 ⟨rfl, hb⟩; have R3 := Aside0.mk (R2.out.then hb); have K3 := Aside0.mk (K2.out.trans (Kept2.of_below hb g none) (.inr (fun k hk => by simp at hk))); clear hb))
    clear NC K1 R1 f1 fr1 K2 R2
    go_loopg [5] s.xs.length (fun kq v5 wr => ∃ (xs : List Ent) (on : Nat → Bool) (v' : Value), v5 = .int .i64 (nextF c xs xs.length) ∧ Aside0 (xs.length = kq ∧ popF s.xs.length c s.xs s.on = popF kq c xs on ∧ RAt wr base g v' ⟨xs, c, on, s.nums⟩ ∧ Kept2 w wr g v.ownBlock ∧ NewRow w v v' ∧ LvOk xs))
    case atStart => exact ⟨s.xs, s.on, v, rfl, ⟨rfl, rfl, R3.out, K3.out, .inl rfl, HL.out⟩⟩
    case round =>
      obtain ⟨xs, on, v', rfl, R⟩ := hrel
      clear R3 K3
      rcases nextF_bd c xs xs.length (Nat.le_refl _) with hx | ⟨i, hx, hi⟩
      · have hp := popF_none (f := gk) (now := c) (xs := xs) (on := on) (by rw [hx]; decide)
        have P := Aside0.mk (show popF s.xs.length c s.xs s.on = (xs, on) by rw [R.out.2.1, hp])
        rw [hx]
        clear hx hp
        go_wp2
        go_loopw [7, 8] (fun xv iv wq => ∃ j : Nat, j ≤ 32 ∧ iv = .int .i64 (31 - (j : Int)) ∧ xv = .int .u32 (hornB on j : Nat) ∧ Below wr.heap.size wr wq) (fun _ iv _ => (intOf iv + 1).toNat)
        case atStart => exact ⟨0, by omega, rfl, rfl, Below.refl _ _⟩
        case round =>
          obtain ⟨j, hj, rfl, rfl, hb⟩ := hrel
          have B := Aside0.mk hb
          by_cases hj32 : j = 32
          · subst hj32
            have hh : hornB on 32 = onN on 32 := by
              have := hornB_eq on 32 (by omega)
              rw [Nat.sub_self, Nat.pow_zero, Nat.mul_one] at this
              exact this
            have HH := Aside0.mk hh
            clear hh
            rw [show (31 - ((32 : Nat) : Int)) = -1 from rfl]
            clear hb
            generalize hornB on 32 = X at *
            go_wp2
            go_ret
            refine ⟨by rw [P.out, ← HH.out]; rfl, v', ?_, ?_, R.out.2.2.2.2.1⟩
            · rw [P.out]; exact R.out.2.2.1.then B.out
            · exact R.out.2.2.2.1.trans (Kept2.of_below B.out g none) (.inr (fun k hk => by simp at hk))
          · obtain ⟨m, hm⟩ : ∃ m : Nat, m = 31 - j := ⟨_, rfl⟩
            have hmj : (31 - (j : Int)) = (m : Int) := by omega
            have hm32 : m < 32 := by omega
            have cm := (R.out.2.2.1.then hb).f2 m hm32
            have hlt := hornB_lt on j
            have hpw : 2 ^ j ≤ 2 ^ 31 := Nat.pow_le_pow_right (by decide) (by omega)
            have hX : hornB on j < 2147483648 := by omega
            have HX : Aside0 (hornB on (j + 1) = 2 * hornB on j + (if on m then 1 else 0)) := ⟨by rw [hm]; rfl⟩
            have HM := Aside0.mk (And.intro hm hmj)
            have hmi : (m : Int) < 32 := by omega
            have hm0 : (0 : Int) ≤ m := by omega
            rw [hmj]
            clear hlt hpw hm hmj hb hj32
            generalize hornB on j = X at *
            have hX1 : (X : Int) < 2147483648 := by omega
            have hX0 : (0 : Int) ≤ X := by omega
            simp only at cm
            cases hb : on m with
            | true =>
              rw [hb] at cm HX
              go_wp2
              go_roundw
              case rel => exact ⟨j + 1, by have := HM.out; omega, by congr 1; have := HM.out; omega, by rw [HX.out]; first | rfl | (congr 1; omega) | (congr 1; simp; done) | (congr 1; simp; omega), by first | exact B.out | exact B.out.drew | exact pw_below_drewN B.out _⟩
              case measure => have := HM.out; first | (simp [intOf]; done) | (simp [intOf]; omega)
            | false =>
              rw [hb] at cm HX
              go_wp2
              go_roundw
              case rel => exact ⟨j + 1, by have := HM.out; omega, by congr 1; have := HM.out; omega, by rw [HX.out]; first | rfl | (congr 1; omega) | (congr 1; simp; done) | (congr 1; simp; omega), by first | exact B.out | exact B.out.drew | exact pw_below_drewN B.out _⟩
              case measure => have := HM.out; first | (simp [intOf]; done) | (simp [intOf]; omega)
      · obtain ⟨gk', rfl⟩ : ∃ gk', gk = gk' + 1 := ⟨gk - 1, by have := R.out.1; omega⟩
        have hp := popF_some (f := gk') (now := c) (xs := xs) (on := on) hx
        rw [hx]
        obtain ⟨b, cc, rfl⟩ := R.out.2.2.1.shape rfl (show 0 < xs.length by omega)
        have d0 := R.out.2.2.1.cell i 0 hi (by decide)
        have d1 := R.out.2.2.1.cell i 1 hi (by decide)
        have d2 := R.out.2.2.1.cell i 2 hi (by decide)
        simp only [ev3, List.getElem?_cons_zero, List.getElem?_cons_succ, Nat.add_zero] at d0 d1 d2
        have hl := R.out.2.2.2.2.2 i hi
        have P := Aside0.mk (show popF s.xs.length c s.xs s.on = popF gk' c (xs.eraseIdx i) (updB on (gE xs i).lv.toNat (gE xs i).on) by rw [R.out.2.1, hp])
        have hln := R.out.2.2.1.len
        simp only at hln
        generalize hn : xs.length = n at *
        have HN := Aside0.mk hn
        generalize (gE xs i).cy = e0 at *
        generalize (gE xs i).lv = e1 at *
        generalize (gE xs i).on = e2 at *
        obtain ⟨L, rfl⟩ : ∃ L : Nat, e1 = L := ⟨e1.toNat, by omega⟩
        rw [Int.toNat_natCast] at P
        have hL : L < 32 := by omega
        have hLi : (L : Int) < 32 := by omega
        have hL0 : (0 : Int) ≤ L := by omega
        have hii : (i : Int) < n := by omega
        have hi0 : (0 : Int) ≤ i := by omega
        have c0 := R.out.2.2.1.f0
        have ca := R.out.2.2.1.f2 L hL
        have caa : ∀ o, (wr.alloc o).cell? ⟨g, 2 + L, none⟩ = some (.bool (on L)) := fun o => ((below_alloc (Below.refl wr.heap.size wr) o).cell (p := ⟨g, 2 + L, none⟩) R.out.2.2.1.lt).trans ca
        have fra := R.out.2.2.1.fr (2 + L)
        have fraa : ∀ o, (wr.alloc o).frozen? ⟨g, 2 + L, none⟩ = false := fun o => ((below_alloc (Below.refl wr.heap.size wr) o).frozen (p := ⟨g, 2 + L, none⟩) R.out.2.2.1.lt).trans fra
        have hgl := R.out.2.2.1.lt
        have hgx : ¬ g = wr.heap.size := by omega
        have hxg : ¬ wr.heap.size = g := by omega
        have hb0 : (wr.setCell ⟨g, 2 + L, none⟩ (.bool e2)).heap[g]? = some (.cells (Value.slice (some ⟨b, 0, none⟩) n cc :: .int .i64 c :: onL (updB on L e2)).toArray 45 (0, 0)) := blk_put R.out.2.2.1.blk (2 + L) (.bool e2) (on_put _ _ _ _ _ hL)
        have R0 : RAt (wr.setCell ⟨g, 2 + L, none⟩ (.bool e2)) base g (.slice (some ⟨b, 0, none⟩) n cc) ⟨xs, c, updB on L e2, s.nums⟩ := ⟨hb0, R.out.2.2.1.ge, ownsRow_setCell_other R.out.2.2.1.row R.out.2.2.1.ne _, R.out.2.2.1.len⟩
        have K0 : Kept2 w (wr.setCell ⟨g, 2 + L, none⟩ (.bool e2)) g v.ownBlock := R.out.2.2.2.1.set _ _
        have RW := Aside0.mk (And.intro R0 K0)
        clear hp hx hn hb0 R0 K0
        go_wp2
        go_region
        generalize hW0 : wr.setCell ⟨g, 2 + L, none⟩ (.bool e2) = W0 at *
        have hbw := (below_alloc (Below.refl W0.heap.size W0) (.cells #[.int .i64 e0, .int .i64 L, .bool e2] 47)).drew
        have RX := RW.out.1.then hbw
        have KX := Aside0.mk (RW.out.2.trans (Kept2.of_below hbw g none) (.inr (fun k hk => by simp at hk)))
        clear hW0 hbw d0 d1 d2 c0 ca caa fra fraa hgl hgx hxg
        generalize (W0.alloc (.cells #[.int .i64 e0, .int .i64 L, .bool e2] 47)).drew = W at *
        have hfw := RX.f0
        obtain ⟨b', cc', AD, A1, c1, A2, c2, W1, W2, t1, t2, t3, t4, t5, t6, t7, t8, t9, t10, t11, t12, t13⟩ := erase_runs W base g i _ _ RX (by show i < xs.length; have := HN.out; omega)
        obtain ⟨rfl, rfl⟩ : b' = b ∧ cc' = cc := by simp at t1; exact ⟨t1.1.symm, t1.2.2.symm⟩
        simp only [HN.out] at t1 t2 t4 t5 t6 t11 t12 t13
        have R5 := Aside0.mk t5
        have R6 := Aside0.mk t6
        have HAD := Aside0.mk t4
        have FIN := Aside0.mk (And.intro t11 (And.intro (t12 _ _ KX.out) t13))
        unfold maxLen at t3
        have hin1 : i + 1 ≤ n := hi
        have hj1 : (i : Int) + 1 ≤ n := by omega
        have hj0 : (0 : Int) ≤ (i : Int) + 1 := by omega
        have hic : i ≤ cc' := by omega
        have hic1 : i + 1 ≤ cc' := by omega
        clear t1 t4 t5 t6 t11 t12 t13 RX
        have NX := Aside0.mk (rnext_call _ base g _ _ FIN.out.1)
        have LE := Aside0.mk (R.out.2.2.2.2.2.erase i (by have := HN.out; omega))
        have XL := Aside0.mk (show (xs.eraseIdx i).length = gk' by rw [List.length_eraseIdx_of_lt (by have := HN.out; omega)]; have := R.out.1; have := HN.out; omega)
        have NRW := Aside0.mk (show NewRow w v (.slice A2 (n - 1) c2) from by
          obtain ⟨k, hk, hkl⟩ := FIN.out.2.2
          exact .inr ⟨k, hk, Nat.le_trans KX.out.size hkl⟩)
        go_wp2_with fail
        have hsw : IntKind.i64.wrap ((i : Int) + 1) = (i : Int) + 1 := by rw [IntKind.wrap_i64]; omega
        have hst : ((i : Int) + 1).toNat = i + 1 := by omega
        go_region_law (first
          | (refine step_append_run rfl (.tmp 41) (.tmp 47) 42 rfl _ _ _ _ (by simp [Act.eval, Act.put]) (by simp [Act.eval, Act.put]) R5.out ?_)
          | (refine step_append_run rfl (.tmp 48) (.tmp 55) 42 rfl _ _ _ _ (by simp [Act.eval, Act.put]) (by simp [Act.eval, Act.put, HAD.out]) R6.out ?_))
        clear hsw hst
        all_goals (go_wp2_with (first
            | (go_at_call 39; (with_reducible refine (NX.out).mono ?_); rintro e w5 ⟨rfl, hb⟩; have R8 := Aside0.mk (FIN.out.1.then hb); have K8 := Aside0.mk (FIN.out.2.1.trans (Kept2.of_below hb g none) (.inr (fun k hk => by simp at hk))); clear hb)))
        all_goals (go_roundg gk' <;> first | omega | exact ⟨xs.eraseIdx i, updB on L e2, .slice A2 (n - 1) c2, rfl, ⟨XL.out, P.out, R8.out, K8.out, NRW.out, LE.out⟩⟩)
  · have hnow : nowS s c = s.now := by unfold nowS; rw [if_neg hc]
    rw [hnow]
    clear hnow R2 K2
    have R2 : Aside0 (RAt w base g v ⟨s.xs, s.now, s.on, s.nums⟩) := R1
    have K2 := K1
    generalize s.now = nw at *
    have hc2 : decide (nw < c) = false := decide_eq_false hc
    go_enter Try.func26, Try.ntmps26
    have NC := Aside0.mk (rnext_call w base g v _ R2.out)
    go_wp2_with (first
      | (go_at_call 39; (with_reducible refine (NC.out).mono ?_); rintro e w1 ⟨rfl, hb⟩; have R3 := Aside0.mk (R2.out.then hb); have K3 := Aside0.mk (K2.out.trans (Kept2.of_below hb g none) (.inr (fun k hk => by simp at hk))); clear hb))
    clear NC K1 R1 f1 fr1 K2 R2
    go_loopg [5] s.xs.length (fun kq v5 wr => ∃ (xs : List Ent) (on : Nat → Bool) (v' : Value), v5 = .int .i64 (nextF nw xs xs.length) ∧ Aside0 (xs.length = kq ∧ popF s.xs.length nw s.xs s.on = popF kq nw xs on ∧ RAt wr base g v' ⟨xs, nw, on, s.nums⟩ ∧ Kept2 w wr g v.ownBlock ∧ NewRow w v v' ∧ LvOk xs))
    case atStart => exact ⟨s.xs, s.on, v, rfl, ⟨rfl, rfl, R3.out, K3.out, .inl rfl, HL.out⟩⟩
    case round =>
      obtain ⟨xs, on, v', rfl, R⟩ := hrel
      clear R3 K3
      rcases nextF_bd nw xs xs.length (Nat.le_refl _) with hx | ⟨i, hx, hi⟩
      · have hp := popF_none (f := gk) (now := nw) (xs := xs) (on := on) (by rw [hx]; decide)
        have P := Aside0.mk (show popF s.xs.length nw s.xs s.on = (xs, on) by rw [R.out.2.1, hp])
        rw [hx]
        clear hx hp
        go_wp2
        go_loopw [7, 8] (fun xv iv wq => ∃ j : Nat, j ≤ 32 ∧ iv = .int .i64 (31 - (j : Int)) ∧ xv = .int .u32 (hornB on j : Nat) ∧ Below wr.heap.size wr wq) (fun _ iv _ => (intOf iv + 1).toNat)
        case atStart => exact ⟨0, by omega, rfl, rfl, Below.refl _ _⟩
        case round =>
          obtain ⟨j, hj, rfl, rfl, hb⟩ := hrel
          have B := Aside0.mk hb
          by_cases hj32 : j = 32
          · subst hj32
            have hh : hornB on 32 = onN on 32 := by
              have := hornB_eq on 32 (by omega)
              rw [Nat.sub_self, Nat.pow_zero, Nat.mul_one] at this
              exact this
            have HH := Aside0.mk hh
            clear hh
            rw [show (31 - ((32 : Nat) : Int)) = -1 from rfl]
            clear hb
            generalize hornB on 32 = X at *
            go_wp2
            go_ret
            refine ⟨by rw [P.out, ← HH.out]; rfl, v', ?_, ?_, R.out.2.2.2.2.1⟩
            · rw [P.out]; exact R.out.2.2.1.then B.out
            · exact R.out.2.2.2.1.trans (Kept2.of_below B.out g none) (.inr (fun k hk => by simp at hk))
          · obtain ⟨m, hm⟩ : ∃ m : Nat, m = 31 - j := ⟨_, rfl⟩
            have hmj : (31 - (j : Int)) = (m : Int) := by omega
            have hm32 : m < 32 := by omega
            have cm := (R.out.2.2.1.then hb).f2 m hm32
            have hlt := hornB_lt on j
            have hpw : 2 ^ j ≤ 2 ^ 31 := Nat.pow_le_pow_right (by decide) (by omega)
            have hX : hornB on j < 2147483648 := by omega
            have HX : Aside0 (hornB on (j + 1) = 2 * hornB on j + (if on m then 1 else 0)) := ⟨by rw [hm]; rfl⟩
            have HM := Aside0.mk (And.intro hm hmj)
            have hmi : (m : Int) < 32 := by omega
            have hm0 : (0 : Int) ≤ m := by omega
            rw [hmj]
            clear hlt hpw hm hmj hb hj32
            generalize hornB on j = X at *
            have hX1 : (X : Int) < 2147483648 := by omega
            have hX0 : (0 : Int) ≤ X := by omega
            simp only at cm
            cases hb : on m with
            | true =>
              rw [hb] at cm HX
              go_wp2
              go_roundw
              case rel => exact ⟨j + 1, by have := HM.out; omega, by congr 1; have := HM.out; omega, by rw [HX.out]; first | rfl | (congr 1; omega) | (congr 1; simp; done) | (congr 1; simp; omega), by first | exact B.out | exact B.out.drew | exact pw_below_drewN B.out _⟩
              case measure => have := HM.out; first | (simp [intOf]; done) | (simp [intOf]; omega)
            | false =>
              rw [hb] at cm HX
              go_wp2
              go_roundw
              case rel => exact ⟨j + 1, by have := HM.out; omega, by congr 1; have := HM.out; omega, by rw [HX.out]; first | rfl | (congr 1; omega) | (congr 1; simp; done) | (congr 1; simp; omega), by first | exact B.out | exact B.out.drew | exact pw_below_drewN B.out _⟩
              case measure => have := HM.out; first | (simp [intOf]; done) | (simp [intOf]; omega)
      · obtain ⟨gk', rfl⟩ : ∃ gk', gk = gk' + 1 := ⟨gk - 1, by have := R.out.1; omega⟩
        have hp := popF_some (f := gk') (now := nw) (xs := xs) (on := on) hx
        rw [hx]
        obtain ⟨b, cc, rfl⟩ := R.out.2.2.1.shape rfl (show 0 < xs.length by omega)
        have d0 := R.out.2.2.1.cell i 0 hi (by decide)
        have d1 := R.out.2.2.1.cell i 1 hi (by decide)
        have d2 := R.out.2.2.1.cell i 2 hi (by decide)
        simp only [ev3, List.getElem?_cons_zero, List.getElem?_cons_succ, Nat.add_zero] at d0 d1 d2
        have hl := R.out.2.2.2.2.2 i hi
        have P := Aside0.mk (show popF s.xs.length nw s.xs s.on = popF gk' nw (xs.eraseIdx i) (updB on (gE xs i).lv.toNat (gE xs i).on) by rw [R.out.2.1, hp])
        have hln := R.out.2.2.1.len
        simp only at hln
        generalize hn : xs.length = n at *
        have HN := Aside0.mk hn
        generalize (gE xs i).cy = e0 at *
        generalize (gE xs i).lv = e1 at *
        generalize (gE xs i).on = e2 at *
        obtain ⟨L, rfl⟩ : ∃ L : Nat, e1 = L := ⟨e1.toNat, by omega⟩
        rw [Int.toNat_natCast] at P
        have hL : L < 32 := by omega
        have hLi : (L : Int) < 32 := by omega
        have hL0 : (0 : Int) ≤ L := by omega
        have hii : (i : Int) < n := by omega
        have hi0 : (0 : Int) ≤ i := by omega
        have c0 := R.out.2.2.1.f0
        have ca := R.out.2.2.1.f2 L hL
        have caa : ∀ o, (wr.alloc o).cell? ⟨g, 2 + L, none⟩ = some (.bool (on L)) := fun o => ((below_alloc (Below.refl wr.heap.size wr) o).cell (p := ⟨g, 2 + L, none⟩) R.out.2.2.1.lt).trans ca
        have fra := R.out.2.2.1.fr (2 + L)
        have fraa : ∀ o, (wr.alloc o).frozen? ⟨g, 2 + L, none⟩ = false := fun o => ((below_alloc (Below.refl wr.heap.size wr) o).frozen (p := ⟨g, 2 + L, none⟩) R.out.2.2.1.lt).trans fra
        have hgl := R.out.2.2.1.lt
        have hgx : ¬ g = wr.heap.size := by omega
        have hxg : ¬ wr.heap.size = g := by omega
        have hb0 : (wr.setCell ⟨g, 2 + L, none⟩ (.bool e2)).heap[g]? = some (.cells (Value.slice (some ⟨b, 0, none⟩) n cc :: .int .i64 nw :: onL (updB on L e2)).toArray 45 (0, 0)) := blk_put R.out.2.2.1.blk (2 + L) (.bool e2) (on_put _ _ _ _ _ hL)
        have R0 : RAt (wr.setCell ⟨g, 2 + L, none⟩ (.bool e2)) base g (.slice (some ⟨b, 0, none⟩) n cc) ⟨xs, nw, updB on L e2, s.nums⟩ := ⟨hb0, R.out.2.2.1.ge, ownsRow_setCell_other R.out.2.2.1.row R.out.2.2.1.ne _, R.out.2.2.1.len⟩
        have K0 : Kept2 w (wr.setCell ⟨g, 2 + L, none⟩ (.bool e2)) g v.ownBlock := R.out.2.2.2.1.set _ _
        have RW := Aside0.mk (And.intro R0 K0)
        clear hp hx hn hb0 R0 K0
        go_wp2
        go_region
        generalize hW0 : wr.setCell ⟨g, 2 + L, none⟩ (.bool e2) = W0 at *
        have hbw := (below_alloc (Below.refl W0.heap.size W0) (.cells #[.int .i64 e0, .int .i64 L, .bool e2] 47)).drew
        have RX := RW.out.1.then hbw
        have KX := Aside0.mk (RW.out.2.trans (Kept2.of_below hbw g none) (.inr (fun k hk => by simp at hk)))
        clear hW0 hbw d0 d1 d2 c0 ca caa fra fraa hgl hgx hxg
        generalize (W0.alloc (.cells #[.int .i64 e0, .int .i64 L, .bool e2] 47)).drew = W at *
        have hfw := RX.f0
        obtain ⟨b', cc', AD, A1, c1, A2, c2, W1, W2, t1, t2, t3, t4, t5, t6, t7, t8, t9, t10, t11, t12, t13⟩ := erase_runs W base g i _ _ RX (by show i < xs.length; have := HN.out; omega)
        obtain ⟨rfl, rfl⟩ : b' = b ∧ cc' = cc := by simp at t1; exact ⟨t1.1.symm, t1.2.2.symm⟩
        simp only [HN.out] at t1 t2 t4 t5 t6 t11 t12 t13
        have R5 := Aside0.mk t5
        have R6 := Aside0.mk t6
        have HAD := Aside0.mk t4
        have FIN := Aside0.mk (And.intro t11 (And.intro (t12 _ _ KX.out) t13))
        unfold maxLen at t3
        have hin1 : i + 1 ≤ n := hi
        have hj1 : (i : Int) + 1 ≤ n := by omega
        have hj0 : (0 : Int) ≤ (i : Int) + 1 := by omega
        have hic : i ≤ cc' := by omega
        have hic1 : i + 1 ≤ cc' := by omega
        clear t1 t4 t5 t6 t11 t12 t13 RX
        have NX := Aside0.mk (rnext_call _ base g _ _ FIN.out.1)
        have LE := Aside0.mk (R.out.2.2.2.2.2.erase i (by have := HN.out; omega))
        have XL := Aside0.mk (show (xs.eraseIdx i).length = gk' by rw [List.length_eraseIdx_of_lt (by have := HN.out; omega)]; have := R.out.1; have := HN.out; omega)
        have NRW := Aside0.mk (show NewRow w v (.slice A2 (n - 1) c2) from by
          obtain ⟨k, hk, hkl⟩ := FIN.out.2.2
          exact .inr ⟨k, hk, Nat.le_trans KX.out.size hkl⟩)
        go_wp2_with fail
        have hsw : IntKind.i64.wrap ((i : Int) + 1) = (i : Int) + 1 := by rw [IntKind.wrap_i64]; omega
        have hst : ((i : Int) + 1).toNat = i + 1 := by omega
        go_region_law (first
          | (refine step_append_run rfl (.tmp 41) (.tmp 47) 42 rfl _ _ _ _ (by simp [Act.eval, Act.put]) (by simp [Act.eval, Act.put]) R5.out ?_)
          | (refine step_append_run rfl (.tmp 48) (.tmp 55) 42 rfl _ _ _ _ (by simp [Act.eval, Act.put]) (by simp [Act.eval, Act.put, HAD.out]) R6.out ?_))
        clear hsw hst
        all_goals (go_wp2_with (first
            | (go_at_call 39; (with_reducible refine (NX.out).mono ?_); rintro e w5 ⟨rfl, hb⟩; have R8 := Aside0.mk (FIN.out.1.then hb); have K8 := Aside0.mk (FIN.out.2.1.trans (Kept2.of_below hb g none) (.inr (fun k hk => by simp at hk))); clear hb)))
        all_goals (go_roundg gk' <;> first | omega | exact ⟨xs.eraseIdx i, updB on L e2, .slice A2 (n - 1) c2, rfl, ⟨XL.out, P.out, R8.out, K8.out, NRW.out, LE.out⟩⟩)
end Go.Proofs.Ytbgcbnlpjjhmhaa.LinesWalk
