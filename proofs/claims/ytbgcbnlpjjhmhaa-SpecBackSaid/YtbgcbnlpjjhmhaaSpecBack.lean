/- SpecBack, walked: what is encoded is decoded, whatever stands behind; what is decoded can be encoded, in no more bytes. No condition. -/
import Derived.Test.YtbgcbnlpjjhmhaaSpecSm
import Derived.Test.YtbgcbnlpjjhmhaaWSized
namespace Go.Proofs.YtbgcbnlpjjhmhaaW.PrintWords
open Go.RowKit in
def IsRow (k : IntKind) (w : World) (a : Option Addr) (len cap : Nat) (zs : List Int) : Prop :=
  (a = none ∧ len = 0 ∧ cap = 0 ∧ zs = []) ∨
  ∃ x, a = some x ∧ len ≤ cap ∧ cap ≤ maxLen ∧ zs.length = cap ∧ (∀ i, i < zs.length → w.cell? (x.add i) = some (.int k (zs.getD i 0))) ∧ ∀ n ∈ zs, (Lit.int k n).wf = true
end Go.Proofs.YtbgcbnlpjjhmhaaW.PrintWords
namespace Go.Proofs.Ytbgcbnlpjjhmhaa.SpecWalk
open Go.RowKit Go.Proofs.Ytbgcbnlpjjhmhaa.Aid Go.Proofs.Ytbgcbnlpjjhmhaa.Pure Go.Proofs.Ytbgcbnlpjjhmhaa.GSpecSizes Go.Proofs.YtbgcbnlpjjhmhaaW.PrintWords Go.Proofs.YtbgcbnlpjjhmhaaW.PrintLast Go.Proofs.YtbgcbnlpjjhmhaaW.PrintMore
attribute [local go_sem] max2_int min2_int max_two min_two max_three min_three max_four min_four   -- for this text's walks alone
set_option linter.unusedVariables false
set_option linter.unusedSimpArgs false
theorem valD_val (kind reg : Int) (a n : Nat) (hn : Sz n) (l : List Int) : 0 ≤ (valD kind reg a n l).2.2.2.1 ∧ (valD kind reg a n l).2.2.2.1 < 4294967296 := by
  unfold valD longD
  split
  · exact ⟨by decide, by decide⟩
  · have := extD_lt (leD ((l.take (a + n)).drop a)).toNat n hn
    exact ⟨by simp only; omega, by simp only; omega⟩
theorem plainD_val (b : Nat) (hb : b < 256) (l : List Int) (acc : Int) (n : Nat) (hn : Sz n) : 0 ≤ (plainD b l acc n).2.2.2.1 ∧ (plainD b l acc n).2.2.2.1 < 4294967296 := by
  have hN : (b / 16 - 10) / 2 = 0 ∨ (b / 16 - 10) / 2 = 1 ∨ (b / 16 - 10) / 2 = 2 := by omega
  have hNs : Sz (2 ^ ((b / 16 - 10) / 2)) := by rcases hN with h | h | h <;> rw [h] <;> simp [Sz]
  unfold plainD
  split
  · split
    · exact ⟨by simp only; omega, by simp only; omega⟩
    · exact ⟨by decide, by decide⟩
  split
  · exact ⟨by decide, by decide⟩
  split
  · split
    · exact valD_val _ _ _ _ hn _
    · exact ⟨by decide, by decide⟩
  split
  · exact valD_val _ _ _ _ (.inr (.inr rfl)) _
  split
  · exact ⟨Int.le_refl 0, (by decide : (0 : Int) < 4294967296)⟩
  · exact valD_val _ _ _ _ hNs _
theorem decD_val (l : List Int) (hl : Bys l) (acc : Int) (n : Nat) (hn : Sz n) : 0 ≤ (decD l acc n).2.2.2.1 ∧ (decD l acc n).2.2.2.1 < 4294967296 := by
  have h0 := hl.get 0
  unfold decD
  split
  · exact ⟨by decide, by decide⟩
  split
  · exact valD_val _ _ _ _ hn _
  split
  · exact ⟨by decide, by decide⟩
  split
  · unfold indexD
    split
    · exact ⟨by decide, by decide⟩
    split
    · exact ⟨by decide, by decide⟩
    split
    · exact ⟨by decide, by decide⟩
    · have hd : Bys (l.drop 1) := fun x hx => hl x (List.mem_of_mem_drop hx)
      have hd0 := hd.get 0
      have := plainD_val ((l.drop 1).getD 0 0).toNat (by omega) (l.drop 1) acc n hn
      unfold idxD
      split
      · split <;> exact this
      · exact this
  · exact plainD_val _ (by omega) _ _ _ hn
theorem row_below {W W' : World} {g : Nat} {cs : Array Value} {ty : TypeId} {fr : Nat × Nat} (h : W.heap[g]? = some (.cells cs ty fr)) (b : Below W.heap.size W W') : W'.heap[g]? = some (.cells cs ty fr) := (b.block g (Array.getElem?_eq_some_iff.1 h).1).trans h
theorem alive_call (w : World) : Calls Try.prog 31 #[] w fun e w' => e = .returned (.bool true) ∧ Below w.heap.size w w' := camshaftlaw11_alive.calls 10 true w (alive_is 10 (Nat.le_refl _))
/-- Same says yes. -/
theorem same_call (w : World) (kd reg idx val by_ reg' val' by' : Int) (h : Lic kd reg val reg' val') :
    Calls Try.prog 34 #[.agg #[.int .i64 kd, .int .i64 reg, .int .i64 idx, .int .u32 val, .int .i64 by_], .agg #[.int .i64 kd, .int .i64 reg', .int .i64 (if idx < 0 then -1 else idx), .int .u32 val', .int .i64 by']] w fun e w' => e = .returned (.bool true) ∧ Below w.heap.size w w' := by
  obtain ⟨h1, h2⟩ := h
  by_cases hv : val = val'
  · subst hv
    by_cases hr : reg = reg'
    · subst hr
      by_cases hi : idx < 0
      · rw [if_pos hi]; exact same_een w kd reg idx val by_ by' hi
      · rw [if_neg hi]; exact same_eep w kd reg idx val by_ by' (by omega)
    · rcases h1 with h1 | rfl | rfl | rfl
      · exact absurd h1.symm hr
      · by_cases hi : idx < 0
        · rw [if_pos hi]; exact same_k0n w reg idx val by_ reg' by' hi hr
        · rw [if_neg hi]; exact same_k0p w reg idx val by_ reg' by' (by omega) hr
      · by_cases hi : idx < 0
        · rw [if_pos hi]; exact same_k12n w reg idx val by_ reg' by' hi hr
        · rw [if_neg hi]; exact same_k12p w reg idx val by_ reg' by' (by omega) hr
      · by_cases hi : idx < 0
        · rw [if_pos hi]; exact same_k13n w reg idx val by_ reg' by' hi hr
        · rw [if_neg hi]; exact same_k13p w reg idx val by_ reg' by' (by omega) hr
  · have h5 : 5 ≤ kd ∧ kd ≤ 9 := h2.resolve_left (fun q => hv q.symm)
    obtain rfl : reg' = reg := by rcases h1 with h | h | h | h <;> omega
    by_cases hi : idx < 0
    · rw [if_pos hi]; exact same_e5n w kd reg' idx val by_ val' by' hi h5 hv
    · rw [if_neg hi]; exact same_e5p w kd reg' idx val by_ val' by' (by omega) h5 hv
set_option maxRecDepth 100000 in
set_option maxHeartbeats 4000000 in
theorem back_long (w : World) (kd reg idx val by_ acc n : Int) (A : Option Addr) (m c : Nat) (h : 256 < m) :
    Calls Try.prog 12 #[.agg #[.int .i64 kd, .int .i64 reg, .int .i64 idx, .int .u32 val, .int .i64 by_], .agg #[.int .u8 acc, .int .i64 n], .slice A m c] w fun e w' => e = .returned (.bool true) ∧ Below w.heap.size w w' := by
  have h1 : (256 : Int) < m := by omega
  obtain ⟨W, hW, hsz, bW, eW⟩ := boxes w kd reg idx val by_ acc n
  have BW := Aside0.mk bW
  clear bW eW h
  go_enter Try.func12, Try.ntmps12
  go_wp2_with (first
    | (go_at_call 31; (with_reducible refine (alive_call _).mono ?_); rintro e w1 ⟨rfl, hb⟩; have B1 := Aside0.mk (below_step BW.out hb); clear hb))
  go_ret
  exact ⟨rfl, B1.out⟩
set_option maxRecDepth 100000 in
set_option maxHeartbeats 4000000 in
theorem back_size (w : World) (kd reg idx val by_ acc n : Int) (A : Option Addr) (c : Nat) (l : List Int) (h : l.length ≤ 256) (hn : n ≠ 1 ∧ n ≠ 2 ∧ n ≠ 4) (hr : ReadsInt w .u8 A l.length l) (hc : l.length ≤ c) :
    Calls Try.prog 12 #[.agg #[.int .i64 kd, .int .i64 reg, .int .i64 idx, .int .u32 val, .int .i64 by_], .agg #[.int .u8 acc, .int .i64 n], .slice A l.length c] w fun e w' => e = .returned (.bool true) ∧ Below w.heap.size w w' := by
  have h1 : ¬ (256 : Int) < l.length := by omega
  have RD := Aside0.mk hr
  have HN := Aside0.mk hn
  have HC := Aside0.mk hc
  obtain ⟨W, hW, hsz, bW, eW⟩ := boxes w kd reg idx val by_ acc n
  have BW := Aside0.mk bW
  have EW := Aside0.mk eW
  clear bW eW h hn hr hc
  go_enter Try.func12, Try.ntmps12
  go_wp2_with (first
    | (go_at_call 31; (with_reducible refine (alive_call _).mono ?_); rintro e w1 ⟨rfl, hb⟩; obtain ⟨d0, d1, d2, d3, d4, p0, p1⟩ := (EW.out.then hb).cells; have E1 := Aside0.mk (EW.out.then hb); have B1 := Aside0.mk (below_step BW.out hb); clear hb)
    | (go_at_call 33; (with_reducible refine (enc_size _ kd reg idx val by_ acc n HN.out).mono ?_); rintro e w2 ⟨rfl, hb0⟩; have hb := below_step (Below.refl _ w1) hb0; obtain ⟨d0, d1, d2, d3, d4, p0, p1⟩ := (E1.out.then hb).cells; have E2 := Aside0.mk (E1.out.then hb); have B2 := Aside0.mk (below_step B1.out hb); clear hb hb0)
    | (go_at_call 32; (with_reducible refine (dec_size _ A c l acc n HN.out (RD.out.below B2.out) HC.out).mono ?_); rintro e w3 ⟨rfl, hb⟩; have B3 := Aside0.mk (below_alloc (below_step B2.out hb) (.cells #[.int .i64 0, .int .i64 0, .int .i64 0, .int .u32 0, .int .i64 0] 66 (0, 0))); clear hb))
  go_ret
  exact ⟨rfl, B3.out⟩
theorem decw_call (w : World) (A : Option Addr) (c m : Nat) (l : List Int) (acc : Int) (n : Nat) (q1 q2 q3 q4 q5 q6 : Int) (hm : l.length = m) (hq : decD l acc n = (q1, q2, q3, q4, q5, q6)) (hl : Bys l) (hn : Sz n) (hr : ReadsInt w .u8 A m l) (hc : m ≤ c) :
    Calls Try.prog 32 #[.slice A m c, .agg #[.int .u8 acc, .int .i64 (n : Int)]] w fun e w' => e = .returned (.tuple #[.agg #[.int .i64 q1, .int .i64 q2, .int .i64 q3, .int .u32 q4, .int .i64 q5], .int .i64 q6]) ∧ Below w.heap.size w w' := by
  have := dec_call w A c m l acc n hm hl hn hr hc
  rwa [hq] at this
set_option maxRecDepth 100000 in
set_option maxHeartbeats 4000000 in
theorem back_none (w : World) (kd reg idx by_ acc : Int) (val n : Nat) (A : Option Addr) (c : Nat) (l : List Int) (h : l.length ≤ 256) (hv : val < 4294967296) (hn : Sz n) (hb : Bys l) (hr : ReadsInt w .u8 A l.length l) (hc : l.length ≤ c) (he : encD kd reg idx val n acc = none)
    (q1 q2 q3 : Int) (q4 : Nat) (q5 q6 : Int) (h4 : q4 < 4294967296) (hq : decD l acc n = (q1, q2, q3, (q4 : Int), q5, q6)) (hag : q6 = 0 → q1 ≠ 14 → ∃ d, encD q1 q2 q3 q4 n acc = some d ∧ (d.length : Int) ≤ q5) :
    Calls Try.prog 12 #[.agg #[.int .i64 kd, .int .i64 reg, .int .i64 idx, .int .u32 val, .int .i64 by_], .agg #[.int .u8 acc, .int .i64 n], .slice A l.length c] w fun e w' => e = .returned (.bool true) ∧ Below w.heap.size w w' := by
  have h1 : ¬ (256 : Int) < l.length := by omega
  have RD := Aside0.mk hr
  have DC := Aside0.mk (fun w A c => decw_call w A c l.length l acc n q1 q2 q3 q4 q5 q6 rfl hq hb hn)
  have HC := Aside0.mk hc
  have EN := Aside0.mk (fun w => he ▸ enc_call w kd reg idx by_ acc val n hv hn)
  have ET := Aside0.mk (fun w => enc_call w q1 q2 q3 q5 acc q4 n h4 hn)
  obtain ⟨W, hW, hsz, bW, eW⟩ := boxes w kd reg idx val by_ acc n
  have BW := Aside0.mk bW
  have EW := Aside0.mk eW
  clear bW eW h hn hr hc hb hq he hv
  by_cases h6 : q6 = 0
  · by_cases h14 : q1 = 14
    · subst h6 h14
      go_enter Try.func12, Try.ntmps12
      go_wp2_with (first
        | (go_at_call 31; (with_reducible refine (alive_call _).mono ?_); rintro e w1 ⟨rfl, hb⟩; obtain ⟨d0, d1, d2, d3, d4, p0, p1⟩ := (EW.out.then hb).cells; have E1 := Aside0.mk (EW.out.then hb); have B1 := Aside0.mk (below_step BW.out hb); clear hb)
        | (go_at_call 33; (with_reducible refine (EN.out _).mono ?_); rintro e w2 ⟨rfl, hb0⟩; have hb := below_step (Below.refl _ w1) hb0; obtain ⟨d0, d1, d2, d3, d4, p0, p1⟩ := (E1.out.then hb).cells; have E2 := Aside0.mk (E1.out.then hb); have B2 := Aside0.mk (below_step B1.out hb); clear hb hb0)
        | (go_at_call 32; (with_reducible refine (DC.out _ A c (RD.out.below B2.out) HC.out).mono ?_); rintro e w3 ⟨rfl, hb⟩; have B3 := Aside0.mk (below_alloc (below_step B2.out hb) (.cells #[.int .i64 14, .int .i64 q2, .int .i64 q3, .int .u32 q4, .int .i64 q5] 66 (0, 0))); clear hb))
      go_ret
      exact ⟨rfl, B3.out⟩
    · obtain ⟨d, hd, hd5⟩ := hag h6 h14
      rw [hd] at ET
      have h14' : (q1 == 14) = false := beq_eq_false_iff_ne.2 h14
      have hdl : (d.length : Int) ≤ q5 := hd5
      subst h6
      clear hag hd
      go_enter Try.func12, Try.ntmps12
      go_wp2_with (first
        | (go_at_call 31; (with_reducible refine (alive_call _).mono ?_); rintro e w1 ⟨rfl, hb⟩; obtain ⟨d0, d1, d2, d3, d4, p0, p1⟩ := (EW.out.then hb).cells; have E1 := Aside0.mk (EW.out.then hb); have B1 := Aside0.mk (below_step BW.out hb); clear hb)
        | (go_at_call 33; (with_reducible refine (EN.out _).mono ?_); rintro e w2 ⟨rfl, hb0⟩; have hb := below_step (Below.refl _ w1) hb0; obtain ⟨d0, d1, d2, d3, d4, p0, p1⟩ := (E1.out.then hb).cells; have E2 := Aside0.mk (E1.out.then hb); have B2 := Aside0.mk (below_step B1.out hb); clear hb hb0)
        | (go_at_call 32; (with_reducible refine (DC.out _ A c (RD.out.below B2.out) HC.out).mono ?_); rintro e w3 ⟨rfl, hb⟩; have bl := below_alloc (Below.refl w3.heap.size w3) (.cells #[.int .i64 q1, .int .i64 q2, .int .i64 q3, .int .u32 q4, .int .i64 q5] 66 (0, 0)); have X3 := Aside0.mk (heap_alloc_new w3 (.cells #[.int .i64 q1, .int .i64 q2, .int .i64 q3, .int .u32 q4, .int .i64 q5] 66 (0, 0))); have E3 := Aside0.mk ((E2.out.then hb).then bl); have B3 := Aside0.mk (below_step (below_step B2.out hb) bl); obtain ⟨W4, hW4⟩ : ∃ W4, w3.alloc (.cells #[.int .i64 q1, .int .i64 q2, .int .i64 q3, .int .u32 q4, .int .i64 q5] 66 (0, 0)) = W4 := ⟨_, rfl⟩; rw [hW4] at X3 E3 B3; obtain ⟨d0, d1, d2, d3, d4, p0, p1⟩ := E3.out.cells; have x0 := cell_of_row _ _ 0 _ _ _ X3.out; have x1 := cell_of_row _ _ 1 _ _ _ X3.out; have x2 := cell_of_row _ _ 2 _ _ _ X3.out; have x3 := cell_of_row _ _ 3 _ _ _ X3.out; have x4 := cell_of_row _ _ 4 _ _ _ X3.out; simp only [List.getElem?_toArray, List.getElem?_cons_zero, List.getElem?_cons_succ] at x0 x1 x2 x3 x4; clear bl hb)
        | (go_at_call 33; (with_reducible refine (ET.out _).mono ?_); rintro e w5 ⟨A5, c5, rfl, hb, ho⟩; have B5 := Aside0.mk (below_step B3.out hb); have x4 := cell_of_row _ _ 4 _ _ _ (row_below X3.out hb); simp only [List.getElem?_toArray, List.getElem?_cons_zero, List.getElem?_cons_succ] at x4; clear hb ho))
      go_ret
      exact ⟨rfl, B5.out⟩
  · have h6' : (q6 != 0) = true := bne_iff_ne.2 h6
    go_enter Try.func12, Try.ntmps12
    go_wp2_with (first
      | (go_at_call 31; (with_reducible refine (alive_call _).mono ?_); rintro e w1 ⟨rfl, hb⟩; obtain ⟨d0, d1, d2, d3, d4, p0, p1⟩ := (EW.out.then hb).cells; have E1 := Aside0.mk (EW.out.then hb); have B1 := Aside0.mk (below_step BW.out hb); clear hb)
      | (go_at_call 33; (with_reducible refine (EN.out _).mono ?_); rintro e w2 ⟨rfl, hb0⟩; have hb := below_step (Below.refl _ w1) hb0; obtain ⟨d0, d1, d2, d3, d4, p0, p1⟩ := (E1.out.then hb).cells; have E2 := Aside0.mk (E1.out.then hb); have B2 := Aside0.mk (below_step B1.out hb); clear hb hb0)
      | (go_at_call 32; (with_reducible refine (DC.out _ A c (RD.out.below B2.out) HC.out).mono ?_); rintro e w3 ⟨rfl, hb⟩; have B3 := Aside0.mk (below_alloc (below_step B2.out hb) (.cells #[.int .i64 q1, .int .i64 q2, .int .i64 q3, .int .u32 q4, .int .i64 q5] 66 (0, 0))); clear hb))
    go_ret
    exact ⟨rfl, B3.out⟩
set_option maxRecDepth 100000 in
theorem ap_runG (W : World) (base : Nat) (v : Value) (xs ys : List Int) (A : Option Addr) (m c : Nat) (HO : W.ownsRow base 5 1 v xs.length (nums .u8 xs)) (HR : ReadsInt W .u8 A m ys) (hbase : base ≤ W.heap.size) (hl : xs.length + m ≤ 140737488355328) :
    ∃ v1 w1, (Builtin.append_ #[62, 62] 62 #[v, .slice A m c]).run Try.prog W = .ok v1 w1 ∧ w1.ownsRow base 5 1 v1 (xs ++ ys).length (nums .u8 (xs ++ ys)) ∧ Below base W w1 ∧ (v1.ownBlock = v.ownBlock ∨ v1.ownBlock = some W.heap.size) ∧ W.grownBy w1 v.ownBlock := by
  obtain ⟨i0, hi, hzz⟩ := Option.map_eq_some_iff.1 info5
  simp only [Prod.mk.injEq] at hzz
  obtain ⟨hz0, hz1, hz2⟩ := hzz
  have hm : ys.length = m := HR.1
  rcases A with _ | ad
  · have h0 : m = 0 := by
      rcases Nat.eq_zero_or_pos m with h0 | h0
      · exact h0
      · obtain ⟨ad, h, _⟩ := HR.2.2 h0
        cases h
    subst h0
    obtain rfl : ys = [] := List.eq_nil_of_length_eq_zero hm
    refine ⟨v, W, ?_, by simpa using HO, Below.refl _ _, .inl rfl, World.grownBy.refl W _⟩
    rcases HO.2 with ⟨rfl, hn⟩ | ⟨g, cap, cur, rfl, _, _, hnc, _⟩
    · simp [Builtin.append_, run_underlying Try.underlying62, sizeOf, typeInfo, hi, Builtin.lenOf, Builtin.firstCells]
    · simp [Builtin.append_, run_underlying Try.underlying62, sizeOf, typeInfo, hi, Builtin.lenOf, Builtin.firstCells, hnc, storeCells]
  · have hcells : ∀ j u, (nums .u8 ys)[j]? = some u → W.cell? (ad.add j) = some u := by
      intro j u hu
      have hj : j < ys.length := by
        rcases Nat.lt_or_ge j ys.length with h | h
        · exact h
        · simp [nums, List.getElem?_eq_none h] at hu
      obtain ⟨ad', h', hc⟩ := HR.2.2 (by omega)
      injection h' with h'
      subst h'
      have := hc j (by omega)
      simp [nums, List.getElem?_eq_getElem hj] at hu
      subst hu
      rw [this]
      simp [List.getD_eq_getElem?_getD, List.getElem?_eq_getElem hj]
    obtain ⟨v1, w1, hr, h2, h3, _, h5⟩ := run_append_own_at (P := Try.prog) W base 62 62 5 i0 (.int .u8 0) 1 1 Try.underlying62 hi hz0 hz1 hz2 rfl (by omega) v xs.length (nums .u8 xs) HO ad m c (nums .u8 ys) (by simp [nums, hm]) hcells
      (by intro u hu; simp only [nums, List.mem_map] at hu; obtain ⟨q, _, rfl⟩ := hu; rfl) (by simp only [maxLen]; omega) (by omega) hbase
    exact ⟨v1, w1, hr, by simpa [nums, hm] using h2, (Below.refl base W).grown h3 hbase (fun k hk => own_base HO k hk), h5, h3⟩
/-- A specifier's block, still zero. -/
def ZS : Obj := .cells #[.int .i64 0, .int .i64 0, .int .i64 0, .int .u32 0, .int .i64 0] 66 (0, 0)
def KeepS (w w' : World) : Prop := ∀ g : Nat, w.heap[g]? = some ZS → w'.heap[g]? = some ZS
/-- An append in a region that draws. -/
theorem step_appn {ops : Array Oper} {o : Oper} {a : Act} {w : World} {K : Act → World → Prop} {Q : Exit → Act → World → Prop} {E : Prop}
    (hg : o.guard = none) (s x : Operand) (hop : o.op = Op.call { callee := Callee.builtin Builtin.append, args := #[s, x], argTypes := #[62, 62] }) (hty : o.type = 62)
    (base m c : Nat) (v : Value) (xs l : List Int) (A : Option Addr) (hs : a.eval s = v) (hx : a.eval x = .slice A m c)
    (hn : xs.length + m ≤ 100000) (hR : ReadsInt w .u8 A m l) (hO : w.ownsRow base 5 1 v xs.length (nums .u8 xs)) (hb : base ≤ w.heap.size)
    (hK : ∀ A2 m2 c2 w2, Aside0 ((xs ++ l).length = m2) → w2.ownsRow base 5 1 (.slice A2 m2 c2) m2 (nums .u8 (xs ++ l)) → Below base w w2 → Aside0 (KeepS w w2) → K (a.put o.dst (.slice A2 m2 c2)) w2) :
    if Region.wanted o (yielded ops a.tmps) = true then Oper.wp Try.prog o a w K Q else E := by
  obtain ⟨v1, w2, r1, r2, r3, r4, r5⟩ := ap_runG w base v xs l A m c hO hR hb (by omega)
  obtain ⟨A2, c2, rfl⟩ := own_val r2
  exact step_append_run hg s x 62 hop _ _ _ w2 hs hx (by rw [hty]; exact r1) (hK A2 _ c2 w2 ⟨rfl⟩ r2 r3 ⟨fun g hz => by
    refine (r5.block g (Array.getElem?_eq_some_iff.1 hz).1 (fun e => ?_)).trans hz
    rcases hO.2 with ⟨rfl, _⟩ | ⟨b, c', cur, rfl, _, h1, _⟩
    · simp [Value.ownBlock] at e
    · simp [Value.ownBlock] at e
      subst e
      rw [hz] at h1
      simp [ZS] at h1⟩)
theorem alloc_at (W : World) (o : Obj) (g : Nat) (hg : W.heap.size = g) : (W.alloc o).heap[g]? = some o := by subst hg; exact heap_alloc_new W o
theorem z_below {w w' : World} {g : Nat} (h : w.heap[g]? = some ZS) (b : Below w.heap.size w w') : w'.heap[g]? = some ZS := (b.block g (Array.getElem?_eq_some_iff.1 h).1).trans h
theorem z_cells {w : World} {g : Nat} (h : w.heap[g]? = some ZS) : (w.cell? ⟨g, 0, none⟩ = some (.int .i64 0) ∧ w.cell? ⟨g, 1, none⟩ = some (.int .i64 0) ∧ w.cell? ⟨g, 2, none⟩ = some (.int .i64 0) ∧ w.cell? ⟨g, 3, none⟩ = some (.int .u32 0) ∧ w.cell? ⟨g, 4, none⟩ = some (.int .i64 0)) ∧ w.frozen? ⟨g, 0, none⟩ = false ∧ w.frozen? ⟨g, 1, none⟩ = false ∧ w.frozen? ⟨g, 2, none⟩ = false ∧ w.frozen? ⟨g, 3, none⟩ = false ∧ w.frozen? ⟨g, 4, none⟩ = false :=
  ⟨⟨cell_of_row _ _ 0 _ _ _ h, cell_of_row _ _ 1 _ _ _ h, cell_of_row _ _ 2 _ _ _ h, cell_of_row _ _ 3 _ _ _ h, cell_of_row _ _ 4 _ _ _ h⟩, frozen_of_row _ _ 0 _ _ h, frozen_of_row _ _ 1 _ _ h, frozen_of_row _ _ 2 _ _ h, frozen_of_row _ _ 3 _ _ h, frozen_of_row _ _ 4 _ _ h⟩
theorem fill5 {w : World} {g : Nat} (h : w.heap[g]? = some ZS) (a b c d e : Value) : (((((w.setCell ⟨g, 0, none⟩ a).setCell ⟨g, 1, none⟩ b).setCell ⟨g, 2, none⟩ c).setCell ⟨g, 3, none⟩ d).setCell ⟨g, 4, none⟩ e).heap[g]? = some (.cells #[a, b, c, d, e] 66 (0, 0)) :=
  blk_put (blk_put (blk_put (blk_put (blk_put h 0 a rfl) 1 b rfl) 2 c rfl) 3 d rfl) 4 e rfl
theorem below5 {w0 w : World} {B g : Nat} (h : Below B w0 w) (hg : B ≤ g) (a b c d e : Value) : Below B w0 (((((w.setCell ⟨g, 0, none⟩ a).setCell ⟨g, 1, none⟩ b).setCell ⟨g, 2, none⟩ c).setCell ⟨g, 3, none⟩ d).setCell ⟨g, 4, none⟩ e) :=
  ((((h.setCell hg a).setCell hg b).setCell hg c).setCell hg d).setCell hg e
theorem litE (W : World) (base g : Nat) (hb : base ≤ W.heap.size) (hg : W.heap.size = g) : (W.alloc (.cells #[] 5 (0, 0))).ownsRow base 5 1 (.slice (some ⟨g, 0, none⟩) 0 0) ([] : List Int).length (nums .u8 []) := by
  subst hg
  exact World.ownsRow_lit W #[] 0 hb (by decide) rfl
theorem ECell.o {W : World} {g : Nat} {kd reg idx val by_ acc n : Int} (h : ECell W g kd reg idx val by_ acc n) : W.cell? ⟨g + 1, 0, none⟩ = some (.int .u8 acc) ∧ W.cell? ⟨g + 1, 1, none⟩ = some (.int .i64 n) := by
  obtain ⟨_, _, _, _, _, h1, h2⟩ := h.cells
  exact ⟨h1, h2⟩
set_option maxRecDepth 100000 in
set_option maxHeartbeats 4000000 in
theorem back_some (w : World) (kd reg idx by_ acc : Int) (val n : Nat) (A : Option Addr) (c : Nat) (l : List Int) (h : l.length ≤ 256) (hv : val < 4294967296) (hn : Sz n) (hb : Bys l) (hr : ReadsInt w .u8 A l.length l) (hc : l.length ≤ c)
    (cl : List Int) (he : encD kd reg idx val n acc = some cl) (hcl : cl.length ≤ 6) (hcb : Bys cl) (reg' idx' val' : Int) (hx : decD (([] ++ cl) ++ l) acc n = (kd, reg', idx', val', (cl.length : Int), 0))
    (SM : ∀ w, Calls Try.prog 34 #[.agg #[.int .i64 kd, .int .i64 reg, .int .i64 idx, .int .u32 val, .int .i64 by_], .agg #[.int .i64 kd, .int .i64 reg', .int .i64 idx', .int .u32 val', .int .i64 cl.length]] w fun e w' => e = .returned (.bool true) ∧ Below w.heap.size w w')
    (q1 q2 q3 : Int) (q4 : Nat) (q5 q6 : Int) (h4 : q4 < 4294967296) (hq : decD l acc n = (q1, q2, q3, (q4 : Int), q5, q6)) (hag : q6 = 0 → q1 ≠ 14 → ∃ d, encD q1 q2 q3 q4 n acc = some d ∧ (d.length : Int) ≤ q5) :
    Calls Try.prog 12 #[.agg #[.int .i64 kd, .int .i64 reg, .int .i64 idx, .int .u32 val, .int .i64 by_], .agg #[.int .u8 acc, .int .i64 n], .slice A l.length c] w fun e w' => e = .returned (.bool true) ∧ Below w.heap.size w w' := by
  have h1 : ¬ (256 : Int) < l.length := by omega
  have RD := Aside0.mk hr
  have DC := Aside0.mk (fun w A c => decw_call w A c l.length l acc n q1 q2 q3 q4 q5 q6 rfl hq hb hn)
  have bb : Bys (([] ++ cl) ++ l) := fun x hx => (List.mem_append.1 hx).elim (fun q => hcb x (by simpa using q)) (hb x)
  have DX := Aside0.mk (fun w A c m hm => decw_call w A c m (([] ++ cl) ++ l) acc n kd reg' idx' val' (cl.length : Int) 0 hm hx bb hn)
  have HC := Aside0.mk hc
  have EN := Aside0.mk (fun w => he ▸ enc_call w kd reg idx by_ acc val n hv hn)
  have ET := Aside0.mk (fun w => enc_call w q1 q2 q3 q5 acc q4 n h4 hn)
  have SM := Aside0.mk SM
  have HL1 := Aside0.mk hcl
  have HL2 := Aside0.mk h
  obtain ⟨W, hW, hsz, bW, eW⟩ := boxes w kd reg idx val by_ acc n
  have BW := Aside0.mk bW
  have EW := Aside0.mk eW
  clear bW eW h hn hr hc hb hq he hv hx hcl hcb bb
  go_enter Try.func12, Try.ntmps12
  go_wp2_with (first
    | (go_at_call 31; (with_reducible refine (alive_call _).mono ?_); rintro e w1 ⟨rfl, hb⟩; obtain ⟨d0, d1, d2, d3, d4, p0, p1⟩ := (EW.out.then hb).cells; have E1 := Aside0.mk (EW.out.then hb); have B1 := Aside0.mk (below_step BW.out hb); clear hb)
    | (go_at_call 33; (with_reducible refine (EN.out _).mono ?_); rintro e w2 ⟨A2, c2, rfl, hb, ho⟩; obtain ⟨d0, d1, d2, d3, d4, p0, p1⟩ := (E1.out.then hb).cells; have E2 := Aside0.mk (E1.out.then hb); have B2 := Aside0.mk (below_step B1.out hb); have O2 := Aside0.mk (own_reads' ho); have RD2 := Aside0.mk (RD.out.below B2.out); clear hb ho))
  go_region_held3 (fun W' => W'.cell? ⟨w.heap.size + 1, 0, none⟩ = some (.int .u8 acc) ∧ W'.cell? ⟨w.heap.size + 1, 1, none⟩ = some (.int .i64 n))
    (first | exact (E2.out.then (by repeat (first | (with_reducible first | assumption | exact Below.refl _ _ | apply below_alloc | apply pw_below_drewN | apply below_drew1 | exact hG9 | refine Below.setCell ?_ ?_ _)))).o)
    (first
    | (refine step_appn rfl (.tmp 29) (.tmp 30) rfl rfl w2.heap.size _ _ _ [] cl _ rfl rfl (by have := HL1.out; simp; omega) (O2.out.below (by repeat (first | (with_reducible first | assumption | exact Below.refl _ _ | apply below_alloc | apply pw_below_drewN | apply below_drew1 | exact hG9 | refine Below.setCell ?_ ?_ _)))) (by first | exact litE w2.drew _ w2.heap.size (Nat.le_refl _) rfl | exact litE (w2.drew.alloc _) _ (w2.heap.size + 1) (by simp) (by simp) | exact own_then (litE w2.drew _ w2.heap.size (Nat.le_refl _) rfl) (below_alloc (Below.refl _ _) _)) (below_size (by repeat (first | (with_reducible first | assumption | exact Below.refl _ _ | apply below_alloc | apply pw_below_drewN | apply below_drew1 | exact hG9 | refine Below.setCell ?_ ?_ _)))) ?_; intro A3 m3 c3 w3 H3 O3 hbe3 K3; have hbe3' : Below w2.heap.size w2 w3 := ((by repeat (first | (with_reducible first | assumption | exact Below.refl _ _ | apply below_alloc | apply pw_below_drewN | apply below_drew1 | exact hG9 | refine Below.setCell ?_ ?_ _))) : Below w2.heap.size w2 _).trans hbe3)
    | (refine step_appn rfl (.tmp 31) (.tmp 32) rfl rfl w2.heap.size _ _ _ ([] ++ cl) l _ rfl rfl (by have := HL1.out; have := HL2.out; simp; omega) (RD2.out.below (by repeat (first | (with_reducible first | assumption | exact Below.refl _ _ | apply below_alloc | apply pw_below_drewN | apply below_drew1 | exact hG9 | refine Below.setCell ?_ ?_ _)))) (by rw [H3.out]; first | exact O3 | exact own_then O3 (below_alloc (Below.refl _ _) _)) (below_size (by repeat (first | (with_reducible first | assumption | exact Below.refl _ _ | apply below_alloc | apply pw_below_drewN | apply below_drew1 | exact hG9 | refine Below.setCell ?_ ?_ _)))) ?_; intro A4 m4 c4 w4 H4 O4 hbe4 K4; have hbe4' : Below w2.heap.size w2 w4 := ((by repeat (first | (with_reducible first | assumption | exact Below.refl _ _ | apply below_alloc | apply pw_below_drewN | apply below_drew1 | exact hG9 | refine Below.setCell ?_ ?_ _))) : Below w2.heap.size w2 _).trans hbe4)
    | (go_at_call 32; (refine (DX.out _ _ _ _ H4.out (own_reads' (O4)) (own_cap (O4))).mono ?_; rintro e w5 ⟨rfl, hb⟩; have hbe5 : Below w2.heap.size w2 w5 := below_step (by repeat (first | (with_reducible first | assumption | exact Below.refl _ _ | apply below_alloc | apply pw_below_drewN | apply below_drew1 | exact hG9 | refine Below.setCell ?_ ?_ _))) hb; have X5 := Aside0.mk (z_below (K4.out _ (K3.out _ (z_below (alloc_at w2.drew ZS w2.heap.size rfl) (below_alloc (Below.refl _ _) _)))) hb); obtain ⟨⟨z0, z1, z2, z3, z4⟩, y0, y1, y2, y3, y4⟩ := z_cells X5.out; have hG9 : w2.heap.size ≤ w2.heap.size := Nat.le_refl _))
    | (go_at_call 32; (refine (DX.out _ _ _ _ H4.out (own_reads' (O4)) (own_cap (O4))).mono ?_; rintro e w5 ⟨rfl, hb⟩; have hbe5 : Below w2.heap.size w2 w5 := below_step (by repeat (first | (with_reducible first | assumption | exact Below.refl _ _ | apply below_alloc | apply pw_below_drewN | apply below_drew1 | exact hG9 | refine Below.setCell ?_ ?_ _))) hb; have X5 := Aside0.mk (z_below (K4.out _ (K3.out _ (alloc_at (w2.drew.alloc (.cells #[] 5 (0, 0))) ZS (w2.heap.size + 1) (by simp)))) hb); obtain ⟨⟨z0, z1, z2, z3, z4⟩, y0, y1, y2, y3, y4⟩ := z_cells X5.out; have hG9 : w2.heap.size ≤ w2.heap.size + 1 := Nat.le_succ _))
    | (go_at_call 32; (refine (DX.out _ _ _ _ H4.out (own_reads' (O4)) (own_cap (O4))).mono ?_; rintro e w5 ⟨rfl, hb⟩; have hbe5 : Below w2.heap.size w2 w5 := below_step (by repeat (first | (with_reducible first | assumption | exact Below.refl _ _ | apply below_alloc | apply pw_below_drewN | apply below_drew1 | exact hG9 | refine Below.setCell ?_ ?_ _))) hb; have X5 := Aside0.mk (z_below (K4.out _ (alloc_at w3 ZS w3.heap.size rfl)) hb); obtain ⟨⟨z0, z1, z2, z3, z4⟩, y0, y1, y2, y3, y4⟩ := z_cells X5.out; have hG9 : w2.heap.size ≤ w3.heap.size := hbe3'.size))
    | (go_at_call 32; (refine (DX.out (w4.alloc ZS) A4 c4 m4 H4.out (own_reads' (own_then O4 (below_alloc (Below.refl _ w4) ZS))) (own_cap O4)).mono ?_); (rintro e w5 ⟨rfl, hb⟩); (have hbe5 : Below w2.heap.size w2 w5 := below_step (below_alloc hbe4' ZS) hb); (have X5 := Aside0.mk (z_below (alloc_at w4 ZS w4.heap.size rfl) hb)); (obtain ⟨⟨z0, z1, z2, z3, z4⟩, y0, y1, y2, y3, y4⟩ := z_cells X5.out); have hG9 : w2.heap.size ≤ w4.heap.size := hbe4'.size)
    | (go_at_call 32; (refine (DX.out _ _ _ _ H4.out (own_reads' (O4)) (own_cap (O4))).mono ?_; rintro e w5 ⟨rfl, hb⟩; have hbe5 : Below w2.heap.size w2 w5 := below_step (by repeat (first | (with_reducible first | assumption | exact Below.refl _ _ | apply below_alloc | apply pw_below_drewN | apply below_drew1 | exact hG9 | refine Below.setCell ?_ ?_ _))) hb; have hG9 : w2.heap.size ≤ w5.heap.size := hbe5.size)))
  have BX := Aside0.mk (heap_alloc_new w5 (.cells #[.int .i64 kd, .int .i64 reg', .int .i64 idx', .int .u32 val', .int .i64 cl.length] 66 (0, 0)))
  have BV := Aside0.mk (below_alloc hbe5 (.cells #[.int .i64 kd, .int .i64 reg', .int .i64 idx', .int .u32 val', .int .i64 cl.length] 66 (0, 0)))
  generalize w5.alloc (.cells #[.int .i64 kd, .int .i64 reg', .int .i64 idx', .int .u32 val', .int .i64 cl.length] 66 (0, 0)) = V at BX BV ⊢
  rotate_left 1
  have BX := Aside0.mk (fill5 X5.out (.int .i64 kd) (.int .i64 reg') (.int .i64 idx') (.int .u32 val') (.int .i64 cl.length))
  have BV := Aside0.mk (below5 hbe5 hG9 (.int .i64 kd) (.int .i64 reg') (.int .i64 idx') (.int .u32 val') (.int .i64 cl.length))
  clear z0 z1 z2 z3 z4 y0 y1 y2 y3 y4
  generalize (((((w5.setCell ⟨w4.heap.size, 0, none⟩ (.int .i64 kd)).setCell ⟨w4.heap.size, 1, none⟩ (.int .i64 reg')).setCell ⟨w4.heap.size, 2, none⟩ (.int .i64 idx')).setCell ⟨w4.heap.size, 3, none⟩ (.int .u32 val')).setCell ⟨w4.heap.size, 4, none⟩ (.int .i64 cl.length)) = V at BX BV ⊢
  rotate_left 1
  have BX := Aside0.mk (fill5 X5.out (.int .i64 kd) (.int .i64 reg') (.int .i64 idx') (.int .u32 val') (.int .i64 cl.length))
  have BV := Aside0.mk (below5 hbe5 hG9 (.int .i64 kd) (.int .i64 reg') (.int .i64 idx') (.int .u32 val') (.int .i64 cl.length))
  clear z0 z1 z2 z3 z4 y0 y1 y2 y3 y4
  generalize (((((w5.setCell ⟨w3.heap.size, 0, none⟩ (.int .i64 kd)).setCell ⟨w3.heap.size, 1, none⟩ (.int .i64 reg')).setCell ⟨w3.heap.size, 2, none⟩ (.int .i64 idx')).setCell ⟨w3.heap.size, 3, none⟩ (.int .u32 val')).setCell ⟨w3.heap.size, 4, none⟩ (.int .i64 cl.length)) = V at BX BV ⊢
  rotate_left 1
  have BX := Aside0.mk (fill5 X5.out (.int .i64 kd) (.int .i64 reg') (.int .i64 idx') (.int .u32 val') (.int .i64 cl.length))
  have BV := Aside0.mk (below5 hbe5 hG9 (.int .i64 kd) (.int .i64 reg') (.int .i64 idx') (.int .u32 val') (.int .i64 cl.length))
  clear z0 z1 z2 z3 z4 y0 y1 y2 y3 y4
  generalize (((((w5.setCell ⟨(w2.heap.size + 1), 0, none⟩ (.int .i64 kd)).setCell ⟨(w2.heap.size + 1), 1, none⟩ (.int .i64 reg')).setCell ⟨(w2.heap.size + 1), 2, none⟩ (.int .i64 idx')).setCell ⟨(w2.heap.size + 1), 3, none⟩ (.int .u32 val')).setCell ⟨(w2.heap.size + 1), 4, none⟩ (.int .i64 cl.length)) = V at BX BV ⊢
  rotate_left 1
  have BX := Aside0.mk (fill5 X5.out (.int .i64 kd) (.int .i64 reg') (.int .i64 idx') (.int .u32 val') (.int .i64 cl.length))
  have BV := Aside0.mk (below5 hbe5 hG9 (.int .i64 kd) (.int .i64 reg') (.int .i64 idx') (.int .u32 val') (.int .i64 cl.length))
  clear z0 z1 z2 z3 z4 y0 y1 y2 y3 y4
  generalize (((((w5.setCell ⟨w2.heap.size, 0, none⟩ (.int .i64 kd)).setCell ⟨w2.heap.size, 1, none⟩ (.int .i64 reg')).setCell ⟨w2.heap.size, 2, none⟩ (.int .i64 idx')).setCell ⟨w2.heap.size, 3, none⟩ (.int .u32 val')).setCell ⟨w2.heap.size, 4, none⟩ (.int .i64 cl.length)) = V at BX BV ⊢
  rotate_left 1
  all_goals (
    have x0 := cell_of_row _ _ 0 _ _ _ BX.out
    have x1 := cell_of_row _ _ 1 _ _ _ BX.out
    have x2 := cell_of_row _ _ 2 _ _ _ BX.out
    have x3 := cell_of_row _ _ 3 _ _ _ BX.out
    have x4 := cell_of_row _ _ 4 _ _ _ BX.out
    simp only [List.getElem?_toArray, List.getElem?_cons_zero, List.getElem?_cons_succ] at x0 x1 x2 x3 x4
    have EV := Aside0.mk (E2.out.then BV.out)
    have BV2 := Aside0.mk (below_step B2.out BV.out)
    obtain ⟨s0, s1, s2, s3, s4, t0, t1⟩ := EV.out.cells
    clear d0 d1 d2 d3 d4 p0 p1
    by_cases h6 : q6 = 0
    · by_cases h14 : q1 = 14
      · subst h6 h14
        go_wp2_with (first
          | (go_at_call 34; (with_reducible refine (SM.out _).mono ?_); rintro e w6 ⟨rfl, hb⟩; have E6 := Aside0.mk (EV.out.then hb); have B6 := Aside0.mk (below_step BV2.out hb); obtain ⟨s0, s1, s2, s3, s4, t0, t1⟩ := E6.out.cells; have x4 := cell_of_row _ _ 4 _ _ _ (row_below BX.out hb); simp only [List.getElem?_toArray, List.getElem?_cons_zero, List.getElem?_cons_succ] at x4; clear hb)
          | (go_at_call 32; (with_reducible refine (DC.out _ A c (RD.out.below B6.out) HC.out).mono ?_); rintro e w7 ⟨rfl, hb⟩; have B7 := Aside0.mk (below_alloc (below_step B6.out hb) (.cells #[.int .i64 14, .int .i64 q2, .int .i64 q3, .int .u32 q4, .int .i64 q5] 66 (0, 0))); clear hb))
        go_ret
        exact ⟨rfl, B7.out⟩
      · obtain ⟨d, hd, hd5⟩ := hag h6 h14
        rw [hd] at ET
        have h14' : (q1 == 14) = false := beq_eq_false_iff_ne.2 h14
        have hdl : (d.length : Int) ≤ q5 := hd5
        subst h6
        clear hag hd
        go_wp2_with (first
          | (go_at_call 34; (with_reducible refine (SM.out _).mono ?_); rintro e w6 ⟨rfl, hb⟩; have E6 := Aside0.mk (EV.out.then hb); have B6 := Aside0.mk (below_step BV2.out hb); obtain ⟨s0, s1, s2, s3, s4, t0, t1⟩ := E6.out.cells; have x4 := cell_of_row _ _ 4 _ _ _ (row_below BX.out hb); simp only [List.getElem?_toArray, List.getElem?_cons_zero, List.getElem?_cons_succ] at x4; clear hb)
          | (go_at_call 32; (with_reducible refine (DC.out _ A c (RD.out.below B6.out) HC.out).mono ?_); rintro e w7 ⟨rfl, hb⟩; have bl := below_alloc (Below.refl w7.heap.size w7) (.cells #[.int .i64 q1, .int .i64 q2, .int .i64 q3, .int .u32 q4, .int .i64 q5] 66 (0, 0)); have X7 := Aside0.mk (heap_alloc_new w7 (.cells #[.int .i64 q1, .int .i64 q2, .int .i64 q3, .int .u32 q4, .int .i64 q5] 66 (0, 0))); have E7 := Aside0.mk ((E6.out.then hb).then bl); have B7 := Aside0.mk (below_step (below_step B6.out hb) bl); obtain ⟨W8, hW8⟩ : ∃ W8, w7.alloc (.cells #[.int .i64 q1, .int .i64 q2, .int .i64 q3, .int .u32 q4, .int .i64 q5] 66 (0, 0)) = W8 := ⟨_, rfl⟩; rw [hW8] at X7 E7 B7; obtain ⟨s0, s1, s2, s3, s4, t0, t1⟩ := E7.out.cells; have v0 := cell_of_row _ _ 0 _ _ _ X7.out; have v1 := cell_of_row _ _ 1 _ _ _ X7.out; have v2 := cell_of_row _ _ 2 _ _ _ X7.out; have v3 := cell_of_row _ _ 3 _ _ _ X7.out; have v4 := cell_of_row _ _ 4 _ _ _ X7.out; simp only [List.getElem?_toArray, List.getElem?_cons_zero, List.getElem?_cons_succ] at v0 v1 v2 v3 v4; clear bl hb)
          | (go_at_call 33; (with_reducible refine (ET.out _).mono ?_); rintro e w9 ⟨A9, c9, rfl, hb, ho⟩; have B9 := Aside0.mk (below_step B7.out hb); have v4 := cell_of_row _ _ 4 _ _ _ (row_below X7.out hb); simp only [List.getElem?_toArray, List.getElem?_cons_zero, List.getElem?_cons_succ] at v4; clear hb ho))
        go_ret
        exact ⟨rfl, B9.out⟩
    · have h6' : (q6 != 0) = true := bne_iff_ne.2 h6
      go_wp2_with (first
        | (go_at_call 34; (with_reducible refine (SM.out _).mono ?_); rintro e w6 ⟨rfl, hb⟩; have E6 := Aside0.mk (EV.out.then hb); have B6 := Aside0.mk (below_step BV2.out hb); obtain ⟨s0, s1, s2, s3, s4, t0, t1⟩ := E6.out.cells; have x4 := cell_of_row _ _ 4 _ _ _ (row_below BX.out hb); simp only [List.getElem?_toArray, List.getElem?_cons_zero, List.getElem?_cons_succ] at x4; clear hb)
        | (go_at_call 32; (with_reducible refine (DC.out _ A c (RD.out.below B6.out) HC.out).mono ?_); rintro e w7 ⟨rfl, hb⟩; have B7 := Aside0.mk (below_alloc (below_step B6.out hb) (.cells #[.int .i64 q1, .int .i64 q2, .int .i64 q3, .int .u32 q4, .int .i64 q5] 66 (0, 0))); clear hb))
      go_ret
      exact ⟨rfl, B7.out⟩)
theorem encD_len (kd reg idx val : Int) (n : Nat) (hn : Sz n) (acc : Int) (cl : List Int) (v0 : 0 ≤ val) (v1 : val < 4294967296) (h : encD kd reg idx val n acc = some cl) : cl.length ≤ 6 ∧ Bys cl := by
  have hn4 : n ≤ 4 := by rcases hn with rfl | rfl | rfl <;> decide
  unfold encD at h
  by_cases ha : acc = 98
  · rw [if_pos ha] at h
    split at h
    · simp only [Option.some.injEq] at h
      subst h
      exact ⟨by rw [putS_length]; omega, putS_bys _ _⟩
    · cases h
  rw [if_neg ha] at h
  by_cases hr : reg < 0 ∨ 15 < reg ∨ 15 < idx
  · rw [if_pos hr] at h; cases h
  rw [if_neg hr] at h
  obtain ⟨v, rfl⟩ : ∃ v : Nat, val = v := ⟨val.toNat, by omega⟩
  obtain ⟨l, b, hf, hl5, hbl, _⟩ := first_ex kd reg idx 0 v n (by omega) hn
  rw [hf (by omega) (by omega)] at h
  cases b with
  | false => simp at h
  | true =>
    have h : (if (decD (if 0 ≤ idx then (64 + idx) :: l else l) acc n).2.2.2.2.2 = 0 ∧ (decD (if 0 ≤ idx then (64 + idx) :: l else l) acc n).1 = kd ∧ (kd = 12 → ((extD ((v : Int)).toNat n : Nat) : Int) = (v : Int)) then some (if 0 ≤ idx then (64 + idx) :: l else l) else none) = some cl := h
    have h2 : (if 0 ≤ idx then (64 + idx) :: l else l) = cl := by
      by_cases q : (decD (if 0 ≤ idx then (64 + idx) :: l else l) acc n).2.2.2.2.2 = 0 ∧ (decD (if 0 ≤ idx then (64 + idx) :: l else l) acc n).1 = kd ∧ (kd = 12 → ((extD ((v : Int)).toNat n : Nat) : Int) = (v : Int))
      · rw [if_pos q] at h
        exact Option.some.inj h
      · rw [if_neg q] at h
        cases h
    subst h2
    by_cases hi : 0 ≤ idx
    · rw [if_pos hi]
      refine ⟨by rw [List.length_cons]; omega, fun y hy => ?_⟩
      rcases List.mem_cons.1 hy with rfl | hy
      · omega
      · exact hbl y hy
    · rw [if_neg hi]
      exact ⟨by omega, hbl⟩
theorem SpecBack_walk (a0 a1 a2 a3 a4 : Int) (b0 b1 : Int) (A : Option Addr) (len cap : Nat) (z : List Int) (w : World) (_ : (Lit.int .i64 a0).wf = true) (_ : (Lit.int .i64 a1).wf = true) (_ : (Lit.int .i64 a2).wf = true) (w3 : (Lit.int .u32 a3).wf = true) (_ : (Lit.int .i64 a4).wf = true)
    (_ : (Lit.int .u8 b0).wf = true) (_ : (Lit.int .i64 b1).wf = true) (hz : IsRow .u8 w A len cap z) (_ : len * 1 ≤ 140737488351232) :
    Calls Try.prog 12 #[.agg #[.int .i64 a0, .int .i64 a1, .int .i64 a2, .int .u32 a3, .int .i64 a4], .agg #[.int .u8 b0, .int .i64 b1], .slice A len cap] w fun e w' => e = .returned (.bool true) ∧ Below w.heap.size w w' := by
  obtain ⟨l, rfl, hr, hm, hwf, hc⟩ := ReadsInt.ofRowC hz
  have hl : Bys l := fun x hx => by obtain ⟨n, rfl, hn⟩ := u8_nat (hwf x hx); omega
  obtain ⟨val, rfl, hv⟩ := u32_nat w3
  by_cases h256 : 256 < l.length
  · exact back_long w a0 a1 a2 val a4 b0 b1 A l.length cap h256
  by_cases hn : b1 ≠ 1 ∧ b1 ≠ 2 ∧ b1 ≠ 4
  · exact back_size w a0 a1 a2 val a4 b0 b1 A cap l (by omega) hn hr hc
  obtain ⟨n, rfl, hs⟩ : ∃ n : Nat, b1 = n ∧ Sz n := by
    refine ⟨b1.toNat, by omega, ?_⟩
    unfold Sz
    omega
  have hval := decD_val l hl b0 n hs
  have ag := dec_again l hl b0 n hs
  cases hq : decD l b0 n with
  | mk q1 q =>
  obtain ⟨q2, q3, q4, q5, q6⟩ := q
  rw [hq] at hval ag
  obtain ⟨v4, rfl⟩ : ∃ v : Nat, q4 = v := ⟨q4.toNat, by have := hval.1; simp only at this; omega⟩
  have h4 : v4 < 4294967296 := by have := hval.2; simp only at this; omega
  cases he : encD a0 a1 a2 val n b0 with
  | none => exact back_none w a0 a1 a2 a4 b0 val n A cap l (by omega) hv hs hl hr hc he q1 q2 q3 v4 q5 q6 h4 hq ag
  | some cl =>
    obtain ⟨hc6, hcb⟩ := encD_len a0 a1 a2 val n hs b0 cl (by omega) (by omega) he
    obtain ⟨reg', val', hx, lic⟩ := enc_back a0 a1 a2 val n hs b0 (by omega) (by omega) cl he l
    exact back_some w a0 a1 a2 a4 b0 val n A cap l (by omega) hv hs hl hr hc cl he hc6 hcb reg' _ val' (by rw [List.nil_append]; exact hx) (fun w => same_call w a0 a1 a2 val a4 reg' val' cl.length lic) q1 q2 q3 v4 q5 q6 h4 hq ag
end Go.Proofs.Ytbgcbnlpjjhmhaa.SpecWalk
