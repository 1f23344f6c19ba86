/- The lines' functions of layer 22, walked: At. -/
import Derived.Test.YtbgcbnlpjjhmhaaLinesG
namespace Go.Proofs.Ytbgcbnlpjjhmhaa.LinesWalk
open Go.RowKit Go.Proofs.Ytbgcbnlpjjhmhaa.Aid Go.Proofs.YtbgcbnlpjjhmhaaW.PrintWords Go.Proofs.YtbgcbnlpjjhmhaaW.PrintLast Go.Proofs.YtbgcbnlpjjhmhaaW.PrintMore Go.Proofs.Ytbgcbnlpjjhmhaa.HeapLaw
attribute [local go_sem] max2_int min2_int max_two min_two max_three min_three max_four min_four   -- for this text's walks alone
set_option linter.unusedVariables false
set_option linter.unusedSimpArgs false
theorem NewRow.refl (w : World) (v : Value) : NewRow w v v := .inl rfl
theorem or_on (on : Nat → Bool) (L : Nat) (hL : L < 32) : Go.bits .or .u32 ((onN on 32 : Nat) : Int) ((2 : Int) ^ L % 4294967296) = ((onN (updB on L true) 32 : Nat) : Int) := by
  have h1 := onN_lt on 32
  have h2 : 2 ^ L < 4294967296 := Nat.lt_of_lt_of_le (Nat.pow_lt_pow_right (by decide) hL) (by decide)
  have e : ((2 : Int) ^ L % 4294967296) = ((2 ^ L : Nat) : Int) := by
    rw [show ((2 : Int) ^ L) = ((2 ^ L : Nat) : Int) from by simp]
    generalize 2 ^ L = p at *
    omega
  rw [e, u32_or_nat _ _ h1 h2]
  congr 1
  refine eq_of_bits 32 _ _ (Nat.or_lt_two_pow h1 h2) (onN_lt _ 32) fun i hi => ?_
  rw [Nat.testBit_or, onN_bit, onN_bit, Nat.testBit_two_pow]
  unfold updB
  by_cases h : L = i
  · subst h; simp [hi]
  · rw [if_neg (fun q => h q.symm)]; simp [h]
theorem andNot_on (on : Nat → Bool) (L : Nat) (hL : L < 32) : Go.bits .andNot .u32 ((onN on 32 : Nat) : Int) ((2 : Int) ^ L % 4294967296) = ((onN (updB on L false) 32 : Nat) : Int) := by
  have h1 := onN_lt on 32
  have h2 : 2 ^ L < 4294967296 := Nat.lt_of_lt_of_le (Nat.pow_lt_pow_right (by decide) hL) (by decide)
  have e : ((2 : Int) ^ L % 4294967296) = ((2 ^ L : Nat) : Int) := by
    rw [show ((2 : Int) ^ L) = ((2 ^ L : Nat) : Int) from by simp]
    generalize 2 ^ L = p at *
    omega
  rw [e, u32_andNot_nat _ _ h1 h2]
  congr 1
  refine eq_of_bits 32 _ _ (Nat.lt_of_le_of_lt Nat.and_le_left h1) (onN_lt _ 32) fun i hi => ?_
  rw [Nat.testBit_and, onN_bit, onN_bit, show 4294967295 - 2 ^ L = 2 ^ 32 - (2 ^ L + 1) from by omega, Nat.testBit_two_pow_sub_succ (by exact h2), Nat.testBit_two_pow]
  unfold updB
  by_cases h : L = i
  · subst h; simp
  · rw [if_neg (fun q => h q.symm)]; simp [h, hi]
set_option maxRecDepth 100000 in
set_option maxHeartbeats 2000000 in
theorem lat_call (w : World) (base g : Nat) (v : Value) (s : St) (c : Int) (h : LAt w base g v s) :
    Calls Try.prog 25 #[.pointer (some ⟨g, 0, none⟩), .int .i64 c] w fun e w' => e = .returned (.int .u32 (onN (atS s c).on 32 : Nat)) ∧ LPost w w' base g v (atS s c) := by
  obtain ⟨q, k1, k2, k3, k4, k5⟩ := h
  obtain ⟨c0, c1, c2, c3⟩ := k1.cells
  have hmax : (if s.now < c then c else s.now) = nowS s c := rfl
  have hfr := k1.free 2
  have hb : (w.setCell ⟨g, 2, none⟩ (.int .i64 (nowS s c))).heap[g]? = some (.cells (v :: [.int .u32 (onN s.on 32 : Nat), .int .i64 (nowS s c), .int .i64 s.nums]).toArray 84 (0, 0)) := blk_put k1.blk 2 (.int .i64 (nowS s c)) rfl
  have S0 := Aside0.mk (show QAt (w.setCell ⟨g, 2, none⟩ (.int .i64 (nowS s c))) base g v q [.int .u32 (onN s.on 32 : Nat), .int .i64 (nowS s c), .int .i64 s.nums] from ⟨hb, k1.ge, ownsRow_setCell_other k1.row k1.ne _, k1.len⟩)
  have K0 := Aside0.mk (show Kept2 w (w.setCell ⟨g, 2, none⟩ (.int .i64 (nowS s c))) g v.ownBlock from (Kept2.of_below (Below.refl _ _) _ _).set _ _)
  have H0 := Aside0.mk (And.intro k2 (And.intro k3 (And.intro k4 k5)))
  have E : atS s c = ⟨(popF s.xs.length (nowS s c) s.xs s.on).1, nowS s c, (popF s.xs.length (nowS s c) s.xs s.on).2, s.nums⟩ := rfl
  rw [E]
  clear E k1 k2 k3 k4 k5 hb c1 c3
  generalize hnow : nowS s c = now at *
  have NW := Aside0.mk hnow
  clear hnow
  go_enter Try.func25, Try.ntmps25
  go_wp2
  go_loopg [5] s.xs.length (fun kq v5 wr => ∃ (q' xs : List Ent) (on : Nat → Bool) (v' : Value), Aside0 (xs.length = kq ∧ popF s.xs.length now s.xs s.on = popF kq now xs on ∧ QAt wr base g v' q' [.int .u32 (onN on 32 : Nat), .int .i64 now, .int .i64 s.nums] ∧ Heap q' q'.length ∧ q'.Perm xs ∧ GoodS ⟨xs, now, on, s.nums⟩ ∧ Kept2 w wr g v.ownBlock ∧ NewRow w v v'))
  case atStart => exact ⟨q, s.xs, s.on, v, ⟨rfl, rfl, S0.out, H0.out.1, H0.out.2.1, H0.out.2.2.1.now now, K0.out, NewRow.refl _ _⟩⟩
  case round =>
    obtain ⟨q', xs, on, v', R⟩ := hrel
    clear hmax c0 c2 hfr
    obtain ⟨d0, d1, d2, d3⟩ := R.out.2.2.1.cells
    by_cases hdue : 0 < q'.length ∧ (gE q' 0).cy ≤ now
    · obtain ⟨hpos, hcy⟩ := hdue
      obtain ⟨n, hn⟩ : ∃ n, q'.length = n + 1 := ⟨q'.length - 1, by omega⟩
      obtain ⟨b, cc, rfl⟩ := R.out.2.2.1.shape hn (by omega)
      have r0 := R.out.2.2.1.row.cell 0 0 hpos (by decide)
      simp only [ent4, List.getElem?_cons_zero, Nat.zero_mul, Nat.add_zero] at r0
      obtain ⟨i, i1, i2, i3, i4⟩ := next_some R.out.2.2.2.2.1 R.out.2.2.2.1 R.out.2.2.2.2.2.1.inc hpos hcy
      obtain ⟨gk', rfl⟩ : ∃ gk', gk = gk' + 1 := ⟨gk - 1, by have := R.out.1; omega⟩
      have hp := popF_some (f := gk') (now := now) (xs := xs) (on := on) i1
      obtain ⟨s1, s2, s3, s4⟩ := restL_spec q' R.out.2.2.2.1 hpos
      have hrest : (downL n (swapL q' 0 n) 0 n).take n = restL q' := by unfold restL; rw [hn]; rfl
      have hE : gE (downL n (swapL q' 0 n) 0 n) n = gE q' 0 := by have := s4; rw [hn] at this; exact this
      have hlv := R.out.2.2.2.2.2.1.lv i i2
      simp only [i3] at hlv
      have hgd := R.out.2.2.2.2.2.1.erase i i2 (updB on (gE q' 0).lv.toNat (gE q' 0).on)
      have HP : Aside0 (∀ W1, Below wr.heap.size wr W1 → Calls Try.prog 38 #[.iface 86 (.pointer (some ⟨g, 0, none⟩))] W1 fun e' w' => e' = .returned (.iface 88 (.agg #[.int .i64 (gE q' 0).cy, .int .i64 (gE q' 0).lv, .bool (gE q' 0).on, .int .i64 (gE q' 0).nm])) ∧ ∃ v2, QAt w' base g v2 (restL q') [.int .u32 (onN on 32 : Nat), .int .i64 now, .int .i64 s.nums] ∧ Kept2 w w' g v.ownBlock ∧ NewRow w v v2) :=
        ⟨fun W1 hW => (hpop_call W1 base g n _ q' _ (R.out.2.2.1.then hW) hn).mono fun e' w' ⟨he, v2, p1, p2, p3⟩ =>
          ⟨by rw [he]; unfold agg4; rw [hE], v2, by rw [← hrest]; exact p1, (R.out.2.2.2.2.2.2.1.trans (Kept2.of_below hW g none) (.inr (fun k hk => by simp at hk))).trans p2 R.out.2.2.2.2.2.2.2.row, NewRow.trans (w1 := W1) R.out.2.2.2.2.2.2.2 p3 (Nat.le_trans R.out.2.2.2.2.2.2.1.size hW.size)⟩⟩
      have FIN := Aside0.mk (show xs.length = gk' + 1 ∧ popF s.xs.length now s.xs s.on = popF gk' now (xs.eraseIdx i) (updB on (gE q' 0).lv.toNat (gE q' 0).on) ∧ Heap (restL q') (restL q').length ∧ (restL q').Perm (xs.eraseIdx i) ∧ GoodS ⟨xs.eraseIdx i, now, updB on (gE q' 0).lv.toNat (gE q' 0).on, s.nums⟩ ∧ (xs.eraseIdx i).length = gk' from
        ⟨R.out.1, by rw [R.out.2.1, hp, i3], s1, i4, hgd, by rw [List.length_eraseIdx_of_lt i2]; have := R.out.1; omega⟩)
      have hn1 : (0 : Int) < (n : Int) + 1 := by omega
      have hn2 : decide ((0 : Int) < (n : Int) + 1) = true := decide_eq_true hn1
      have ta := assertE
      clear hp s1 s2 s3 s4 hrest hE hgd i1 i2 i3 i4 hpos hn
      generalize restL q' = rq at *
      generalize (gE q' 0).cy = e0 at *
      generalize he1 : (gE q' 0).lv = e1 at *
      generalize (gE q' 0).on = e2 at *
      generalize (gE q' 0).nm = e3 at *
      clear he1
      obtain ⟨L, rfl⟩ : ∃ L : Nat, e1 = L := ⟨e1.toNat, by omega⟩
      rw [Int.toNat_natCast] at FIN
      have hL : L < 32 := by omega
      have hcy2 : decide (e0 ≤ now) = true := decide_eq_true hcy
      go_wp2
      go_quiet (fail)
      go_wp2_with fail
      generalize hW : wr.drewN _ = W1
      have hB1 : Below wr.heap.size wr W1 := hW ▸ pw_below_drewN (Below.refl wr.heap.size wr) _
      have B1 := Aside0.mk hB1
      clear hB1 hW d0 d1 d2 d3 r0
      cases e2 with
      | true =>
        go_wp2_with (first
          | (go_at_call 38; (with_reducible refine (HP.out _ B1.out).mono ?_); rintro e w2 ⟨rfl, v2, hq2, hk2, hr2⟩; have Q2 := Aside0.mk hq2; have R2 := Aside0.mk (And.intro hk2 hr2); have hb2 := below_alloc (Below.refl w2.heap.size w2); have z1 : ∀ o, (w2.alloc o).cell? ⟨g, 1, none⟩ = some (.int .u32 (onN on 32 : Nat)) := fun o => ((hb2 o).cell (p := ⟨g, 1, none⟩) hq2.lt).trans hq2.cells.2.1; have f1 : ∀ o, (w2.alloc o).frozen? ⟨g, 1, none⟩ = false := fun o => ((hb2 o).frozen (p := ⟨g, 1, none⟩) hq2.lt).trans (hq2.free 1); clear hq2 hk2 hr2 hb2))
        go_region
        all_goals go_wp2
        all_goals go_roundg gk'
        case measure => omega
        case rel =>
          rw [or_on on L hL]
          have hb3 : ((w2.alloc (.cells #[.int .i64 e0, .int .i64 L, .bool true, .int .i64 e3] 88)).setCell ⟨g, 1, none⟩ (.int .u32 (onN (updB on L true) 32 : Nat))).heap[g]? = some (.cells (v2 :: [.int .u32 (onN (updB on L true) 32 : Nat), .int .i64 now, .int .i64 s.nums]).toArray 84 (0, 0)) := blk_put (((below_alloc (Below.refl w2.heap.size w2) _).block g Q2.out.lt).trans Q2.out.blk) 1 _ rfl
          have hrw := ownsRow_setCell_other (a := ⟨g, 1, none⟩) (own_then Q2.out.row (below_alloc (Below.refl w2.heap.size w2) (.cells #[.int .i64 e0, .int .i64 L, .bool true, .int .i64 e3] 88))) Q2.out.ne (.int .u32 (onN (updB on L true) 32 : Nat))
          exact ⟨rq, xs.eraseIdx i, updB on L true, v2, ⟨FIN.out.2.2.2.2.2, FIN.out.2.1, ⟨hb3, Q2.out.ge, hrw, Q2.out.len⟩, FIN.out.2.2.1, FIN.out.2.2.2.1, FIN.out.2.2.2.2.1, ((R2.out.1.trans (Kept2.of_below (below_alloc (Below.refl w2.heap.size w2) _) g none) (.inr (fun k hk => by simp at hk))).set 1 _).drew, R2.out.2⟩⟩
      | false =>
        go_wp2_with (first
          | (go_at_call 38; (with_reducible refine (HP.out _ B1.out).mono ?_); rintro e w2 ⟨rfl, v2, hq2, hk2, hr2⟩; have Q2 := Aside0.mk hq2; have R2 := Aside0.mk (And.intro hk2 hr2); have hb2 := below_alloc (Below.refl w2.heap.size w2); have z1 : ∀ o, (w2.alloc o).cell? ⟨g, 1, none⟩ = some (.int .u32 (onN on 32 : Nat)) := fun o => ((hb2 o).cell (p := ⟨g, 1, none⟩) hq2.lt).trans hq2.cells.2.1; have f1 : ∀ o, (w2.alloc o).frozen? ⟨g, 1, none⟩ = false := fun o => ((hb2 o).frozen (p := ⟨g, 1, none⟩) hq2.lt).trans (hq2.free 1); clear hq2 hk2 hr2 hb2))
        go_region
        all_goals go_wp2
        all_goals go_roundg gk'
        case measure => omega
        case rel =>
          rw [andNot_on on L hL]
          have hb3 : ((w2.alloc (.cells #[.int .i64 e0, .int .i64 L, .bool false, .int .i64 e3] 88)).setCell ⟨g, 1, none⟩ (.int .u32 (onN (updB on L false) 32 : Nat))).heap[g]? = some (.cells (v2 :: [.int .u32 (onN (updB on L false) 32 : Nat), .int .i64 now, .int .i64 s.nums]).toArray 84 (0, 0)) := blk_put (((below_alloc (Below.refl w2.heap.size w2) _).block g Q2.out.lt).trans Q2.out.blk) 1 _ rfl
          have hrw := ownsRow_setCell_other (a := ⟨g, 1, none⟩) (own_then Q2.out.row (below_alloc (Below.refl w2.heap.size w2) (.cells #[.int .i64 e0, .int .i64 L, .bool false, .int .i64 e3] 88))) Q2.out.ne (.int .u32 (onN (updB on L false) 32 : Nat))
          exact ⟨rq, xs.eraseIdx i, updB on L false, v2, ⟨FIN.out.2.2.2.2.2, FIN.out.2.1, ⟨hb3, Q2.out.ge, hrw, Q2.out.len⟩, FIN.out.2.2.1, FIN.out.2.2.2.1, FIN.out.2.2.2.2.1, ((R2.out.1.trans (Kept2.of_below (below_alloc (Below.refl w2.heap.size w2) _) g none) (.inr (fun k hk => by simp at hk))).set 1 _).drew, R2.out.2⟩⟩
    · have hnx := next_none (now := now) R.out.2.2.2.2.1 R.out.2.2.2.1 hdue
      have hp := popF_none (f := gk) (now := now) (xs := xs) (on := on) (by rw [hnx]; decide)
      have FIN := Aside0.mk (show (onN (popF s.xs.length now s.xs s.on).2 32 = onN on 32) ∧ ∀ m, LPost w (wr.drewN m) base g v ⟨(popF s.xs.length now s.xs s.on).1, now, (popF s.xs.length now s.xs s.on).2, s.nums⟩ from by
        rw [R.out.2.1, hp]
        exact ⟨rfl, fun m => ⟨v', ⟨q', R.out.2.2.1.then (pw_below_drewN (Below.refl _ _) m), R.out.2.2.2.1, R.out.2.2.2.2.1, R.out.2.2.2.2.2.1, H0.out.2.2.2⟩, R.out.2.2.2.2.2.2.1.drewN m, R.out.2.2.2.2.2.2.2⟩⟩)
      by_cases h0 : q'.length = 0
      · obtain ⟨A, cc, rfl⟩ := R.out.2.2.1.own
        rw [h0] at d0
        clear hnx hp hdue h0
        generalize onN on 32 = onb at *
        go_wp2
        go_quiet (fail)
        go_wp2
        go_ret
        exact ⟨by rw [FIN.out.1]; rfl, FIN.out.2 _⟩
      · obtain ⟨n, hn⟩ : ∃ n, q'.length = n + 1 := ⟨q'.length - 1, by omega⟩
        obtain ⟨b, cc, rfl⟩ := R.out.2.2.1.shape hn (by omega)
        have hcy : ¬ (gE q' 0).cy ≤ now := fun k => hdue ⟨by omega, k⟩
        have r0 := R.out.2.2.1.row.cell 0 0 (by omega) (by decide)
        simp only [ent4, List.getElem?_cons_zero, Nat.zero_mul, Nat.add_zero] at r0
        have hn1 : (0 : Int) < (n : Int) + 1 := by omega
        have hn2 : decide ((0 : Int) < (n : Int) + 1) = true := decide_eq_true hn1
        clear hnx hp hdue h0 hn
        generalize onN on 32 = onb at *
        generalize (gE q' 0).cy = cy0 at *
        have hcy2 : decide (cy0 ≤ now) = false := decide_eq_false hcy
        go_wp2
        go_quiet (fail)
        go_wp2
        go_ret
        exact ⟨by rw [FIN.out.1]; rfl, FIN.out.2 _⟩
end Go.Proofs.Ytbgcbnlpjjhmhaa.LinesWalk
