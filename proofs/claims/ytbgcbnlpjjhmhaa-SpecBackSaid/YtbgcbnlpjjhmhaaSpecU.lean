/- SpecBack: first, walked. -/
import Derived.Test.YtbgcbnlpjjhmhaaSpecT
import Derived.BigRegion
namespace Go.Proofs.Ytbgcbnlpjjhmhaa.SpecWalk
open Go.RowKit Go.Proofs.Ytbgcbnlpjjhmhaa.Aid Go.Proofs.Ytbgcbnlpjjhmhaa.Pure Go.Proofs.Ytbgcbnlpjjhmhaa.GSpecSizes Go.Proofs.YtbgcbnlpjjhmhaaW.PrintWords Go.Proofs.YtbgcbnlpjjhmhaaW.PrintLast Go.Proofs.YtbgcbnlpjjhmhaaW.PrintMore
attribute [local go_sem] max2_int min2_int max_two min_two max_three min_three max_four min_four   -- for this text's walks alone
set_option linter.unusedVariables false
set_option linter.unusedSimpArgs false
theorem step_append_run {P : Program} {ops : Array Oper} {o : Oper} {a : Act} {w : World} {K : Act → World → Prop} {Q : Exit → Act → World → Prop} {E : Prop}
    (hg : o.guard = none) (s x : Operand) (t : TypeId) (hop : o.op = Op.call { callee := Callee.builtin Builtin.append, args := #[s, x], argTypes := #[t, t] })
    (vs vx v : Value) (w' : World) (hs : a.eval s = vs) (hx : a.eval x = vx) (hrun : (Builtin.append_ #[t, t] o.type #[vs, vx]).run P w = .ok v w') (hK : K (a.put o.dst v) w') :
    if Region.wanted o (yielded ops a.tmps) = true then Oper.wp P o a w K Q else E := by
  have hw : Region.wanted o (yielded ops a.tmps) = true := by simp [Region.wanted, hg]
  rw [if_pos hw]
  unfold Oper.wp
  simp [execOp, hop, resolve, invoke, builtin, hs, hx, hrun, Result.andThen]
  exact hK
set_option maxRecDepth 100000 in
theorem ap_run (W : World) (base : Nat) (v : Value) (xs ys : List Int) (A : Option Addr) (m c : Nat) (HO : W.ownsRow base 5 1 v xs.length (nums .u8 xs)) (HR : ReadsInt W .u8 A m ys) (hbase : base ≤ W.heap.size) (hl : xs.length + m ≤ 140737488355328) :
    ∃ v1 w1, (Builtin.append_ #[62, 62] 62 #[v, .slice A m c]).run Try.prog W = .ok v1 w1 ∧ w1.ownsRow base 5 1 v1 (xs ++ ys).length (nums .u8 (xs ++ ys)) ∧ Below base W w1 ∧ (v1.ownBlock = v.ownBlock ∨ v1.ownBlock = some W.heap.size) := by
  obtain ⟨i0, hi, hzz⟩ := Option.map_eq_some_iff.1 info5
  simp only [Prod.mk.injEq] at hzz
  obtain ⟨hz0, hz1, hz2⟩ := hzz
  have hm : ys.length = m := HR.1
  rcases A with _ | ad
  · have h0 : m = 0 := by
      rcases Nat.eq_zero_or_pos m with h0 | h0
      · exact h0
      · obtain ⟨ad, h, _⟩ := HR.2.2 h0
        cases h
    subst h0
    obtain rfl : ys = [] := List.eq_nil_of_length_eq_zero hm
    refine ⟨v, W, ?_, by simpa using HO, Below.refl _ _, .inl rfl⟩
    rcases HO.2 with ⟨rfl, hn⟩ | ⟨g, cap, cur, rfl, _, _, hnc, _⟩
    · simp [Builtin.append_, run_underlying Try.underlying62, sizeOf, typeInfo, hi, Builtin.lenOf, Builtin.firstCells]
    · simp [Builtin.append_, run_underlying Try.underlying62, sizeOf, typeInfo, hi, Builtin.lenOf, Builtin.firstCells, hnc, storeCells]
  · have hcells : ∀ j u, (nums .u8 ys)[j]? = some u → W.cell? (ad.add j) = some u := by
      intro j u hu
      have hj : j < ys.length := by
        rcases Nat.lt_or_ge j ys.length with h | h
        · exact h
        · simp [nums, List.getElem?_eq_none h] at hu
      obtain ⟨ad', h', hc⟩ := HR.2.2 (by omega)
      injection h' with h'
      subst h'
      have := hc j (by omega)
      simp [nums, List.getElem?_eq_getElem hj] at hu
      subst hu
      rw [this]
      simp [List.getD_eq_getElem?_getD, List.getElem?_eq_getElem hj]
    obtain ⟨v1, w1, hr, h2, h3, _, h5⟩ := run_append_own_at (P := Try.prog) W base 62 62 5 i0 (.int .u8 0) 1 1 Try.underlying62 hi hz0 hz1 hz2 rfl (by omega) v xs.length (nums .u8 xs) HO ad m c (nums .u8 ys) (by simp [nums, hm]) hcells
      (by intro u hu; simp only [nums, List.mem_map] at hu; obtain ⟨q, _, rfl⟩ := hu; rfl) (by simp only [maxLen]; omega) (by omega) hbase
    exact ⟨v1, w1, hr, by simpa [nums, hm] using h2, (Below.refl base W).grown h3 hbase (fun k hk => own_base HO k hk), h5⟩
/-- A row of bytes is handed back, and a truth. -/
def FPost (w : World) (l : List Int) (b : Bool) (e : Ending) (w' : World) : Prop :=
  ∃ A c, e = .returned (.tuple #[.slice A l.length c, .bool b]) ∧ Below w.heap.size w w' ∧ w'.ownsRow w.heap.size 5 1 (.slice A l.length c) l.length (nums .u8 l)
theorem lit1 (W : World) (x : Int) (base : Nat) (hb : base ≤ W.heap.size) : (W.alloc (.cells #[.int .u8 x] 5)).ownsRow base 5 1 (.slice (some ⟨W.heap.size, 0, none⟩) 1 1) [x].length (nums .u8 [x]) :=
  World.ownsRow_lit W #[.int .u8 x] 1 hb (by decide) rfl
theorem lit1g (W : World) (x : Int) (base g : Nat) (hb : base ≤ W.heap.size) (hg : W.heap.size = g) : (W.alloc (.cells #[.int .u8 x] 5)).ownsRow base 5 1 (.slice (some ⟨g, 0, none⟩) [x].length 1) [x].length (nums .u8 [x]) := by
  subst hg
  exact lit1 W x base hb
theorem put4 (w : World) (x : Nat) (hx : x < 4294967296) :
    Calls Try.prog 47 #[.int .u32 (x : Int), .int .i64 4] w fun e w' => ∃ A c, e = .returned (.slice A 4 c) ∧ Below w.heap.size w w' ∧ w'.ownsRow w.heap.size 5 1 (.slice A 4 c) 4 (nums .u8 (putS x 4)) := put_call w x 4 hx (by decide)
theorem or_lo : ∀ (k r : Fin 16), Go.bits .or .u8 (k.val * 16 : Int) (r.val : Int) = ((k.val * 16 + r.val : Nat) : Int) := by decide +kernel
theorem or_lo' (k r : Nat) (hk : k < 16) (hr : r < 16) : Go.bits .or .u8 ((k : Int) * 16) (r : Int) = ((k * 16 + r : Nat) : Int) := or_lo ⟨k, hk⟩ ⟨r, hr⟩
set_option maxRecDepth 100000 in
set_option maxHeartbeats 4000000 in
theorem first_0 (w : World) (reg idx val by_ n : Int) (hv : 0 ≤ val ∧ val < 4294967296) :
    Calls Try.prog 48 #[.agg #[.int .i64 0, .int .i64 reg, .int .i64 idx, .int .u32 val, .int .i64 by_], .int .i64 n] w (FPost w [val % 256] (decide (val < 64))) := by
  go_enter Try.func48, Try.ntmps48
  go_wp2
  go_region
  go_wp2
  go_ret2
  exact ⟨_, _, rfl, (below_alloc (below_alloc (Below.refl _ _) _) _).drew, (lit1g (w.alloc _) _ w.heap.size (w.heap.size + 1) (by simp) (by simp)).drew⟩
theorem or_reg (kd : Nat) (r : Nat) (reg : Int) (hk : kd < 16) (hr : r < 16) (h : Go.bits .and .i64 reg 15 = r) : Go.bits .or .u8 ((kd : Int) * 16 % 256) (Go.bits .and .i64 reg 15 % 256) = ((kd * 16 + r : Nat) : Int) := by
  rw [h, show (r : Int) % 256 = r from by omega, show (kd : Int) * 16 % 256 = (kd : Int) * 16 from by omega]
  exact or_lo' kd r hk hr
set_option maxRecDepth 100000 in
set_option maxHeartbeats 4000000 in
theorem first_5 (w : World) (kd r : Nat) (reg idx val by_ n : Int) (hk : 5 ≤ kd ∧ kd ≤ 9) (hr : r < 16) (h : Go.bits .and .i64 reg 15 = r) :
    Calls Try.prog 48 #[.agg #[.int .i64 kd, .int .i64 reg, .int .i64 idx, .int .u32 val, .int .i64 by_], .int .i64 n] w (FPost w [((kd * 16 + r : Nat) : Int)] true) := by
  have e := or_reg kd r reg (by omega) hr h
  have E := Aside0.mk e
  rcases (by omega : kd = 5 ∨ kd = 6 ∨ kd = 7 ∨ kd = 8 ∨ kd = 9) with rfl | rfl | rfl | rfl | rfl
  all_goals
    clear e h hk
    go_enter Try.func48, Try.ntmps48
    go_wp2
    go_ret2
    rw [← E.out]
    exact ⟨_, _, rfl, below_alloc (below_alloc (Below.refl _ _) _) _, lit1g (w.alloc _) _ w.heap.size (w.heap.size + 1) (by simp) (by simp)⟩
set_option maxRecDepth 100000 in
set_option maxHeartbeats 4000000 in
theorem first_12 (w : World) (val n : Nat) (reg idx by_ : Int) (hv : val < 4294967296) (hn : n ≤ 4) :
    Calls Try.prog 48 #[.agg #[.int .i64 12, .int .i64 reg, .int .i64 idx, .int .u32 val, .int .i64 by_], .int .i64 n] w (FPost w (143 :: putS val n) true) := by
  have C := Aside0.mk (fun w => put_call w val n hv hn)
  have HP := Aside0.mk (putS_length (val : Int) n)
  have BB := Aside0.mk (below_alloc (Below.refl w.heap.size w) (.cells #[.int .i64 12, .int .i64 reg, .int .i64 idx, .int .u32 val, .int .i64 by_] 66 (0, 0)))
  have c3 : (w.alloc (.cells #[.int .i64 12, .int .i64 reg, .int .i64 idx, .int .u32 val, .int .i64 by_] 66 (0, 0))).cell? ⟨w.heap.size, 3, none⟩ = some (.int .u32 val) := by simp
  have c1 : (w.alloc (.cells #[.int .i64 12, .int .i64 reg, .int .i64 idx, .int .u32 val, .int .i64 by_] 66 (0, 0))).cell? ⟨w.heap.size, 1, none⟩ = some (.int .i64 reg) := by simp
  have c0 : (w.alloc (.cells #[.int .i64 12, .int .i64 reg, .int .i64 idx, .int .u32 val, .int .i64 by_] 66 (0, 0))).cell? ⟨w.heap.size, 0, none⟩ = some (.int .i64 12) := by simp
  have hsz : (w.alloc (.cells #[.int .i64 12, .int .i64 reg, .int .i64 idx, .int .u32 val, .int .i64 by_] 66 (0, 0))).heap.size = w.heap.size + 1 := by simp
  obtain ⟨W, hW⟩ : ∃ W, w.alloc (.cells #[.int .i64 12, .int .i64 reg, .int .i64 idx, .int .u32 val, .int .i64 by_] 66 (0, 0)) = W := ⟨_, rfl⟩
  rw [hW] at BB c0 c1 c3 hsz
  have c3' : ∀ o, (W.alloc o).cell? ⟨w.heap.size, 3, none⟩ = some (.int .u32 val) := fun o => ((below_alloc (Below.refl W.heap.size W) o).cell (p := ⟨w.heap.size, 3, none⟩) (by show w.heap.size < W.heap.size; omega)).trans c3
  have HN := Aside0.mk hn
  clear hn
  go_enter Try.func48, Try.ntmps48
  go_wp2_with (first
    | (go_at_call 47; ((with_reducible refine (C.out _).mono ?_); rintro e w1 ⟨A1, c1, rfl, hb, ho⟩; have O0 := Aside0.mk (own_then (lit1g W 143 w.heap.size (w.heap.size + 1) BB.out.size hsz) hb); have B1 := Aside0.mk (below_step (below_alloc BB.out _) hb); have R1 := Aside0.mk (own_reads' ho); clear hb ho))
    | (at_builtin; (refine print_append_row (w0 := w) w.heap.size rfl (.tmp 74) (.tmp 78) 62 5 .u8 1 rfl Try.underlying62 info5 (by decide) _ [143] (putS val n) A1 n c1 rfl rfl O0.out R1.out B1.out B1.out.size (by have := HN.out; simp; omega) ?_; intro v1 w2 ho hb hg hat; have O2 := Aside0.mk ho; have B2 := Aside0.mk hb; clear ho hb hg hat)))
  go_ret2
  obtain ⟨A2, c2, rfl⟩ := own_val O2.out
  exact ⟨A2, c2, rfl, B2.out, O2.out⟩
set_option maxRecDepth 100000 in
set_option maxHeartbeats 4000000 in
theorem first_13 (w : World) (val : Nat) (n : Int) (reg idx by_ : Int) (hv : val < 4294967296) :
    Calls Try.prog 48 #[.agg #[.int .i64 13, .int .i64 reg, .int .i64 idx, .int .u32 val, .int .i64 by_], .int .i64 n] w (FPost w (159 :: putS val 4) true) := by
  have C := Aside0.mk (fun w => put4 w val hv)
  have HP := Aside0.mk (putS_length (val : Int) 4)
  have BB := Aside0.mk (below_alloc (Below.refl w.heap.size w) (.cells #[.int .i64 13, .int .i64 reg, .int .i64 idx, .int .u32 val, .int .i64 by_] 66 (0, 0)))
  have c3 : (w.alloc (.cells #[.int .i64 13, .int .i64 reg, .int .i64 idx, .int .u32 val, .int .i64 by_] 66 (0, 0))).cell? ⟨w.heap.size, 3, none⟩ = some (.int .u32 val) := by simp
  have c1 : (w.alloc (.cells #[.int .i64 13, .int .i64 reg, .int .i64 idx, .int .u32 val, .int .i64 by_] 66 (0, 0))).cell? ⟨w.heap.size, 1, none⟩ = some (.int .i64 reg) := by simp
  have c0 : (w.alloc (.cells #[.int .i64 13, .int .i64 reg, .int .i64 idx, .int .u32 val, .int .i64 by_] 66 (0, 0))).cell? ⟨w.heap.size, 0, none⟩ = some (.int .i64 13) := by simp
  have hsz : (w.alloc (.cells #[.int .i64 13, .int .i64 reg, .int .i64 idx, .int .u32 val, .int .i64 by_] 66 (0, 0))).heap.size = w.heap.size + 1 := by simp
  obtain ⟨W, hW⟩ : ∃ W, w.alloc (.cells #[.int .i64 13, .int .i64 reg, .int .i64 idx, .int .u32 val, .int .i64 by_] 66 (0, 0)) = W := ⟨_, rfl⟩
  rw [hW] at BB c0 c1 c3 hsz
  have c3' : ∀ o, (W.alloc o).cell? ⟨w.heap.size, 3, none⟩ = some (.int .u32 val) := fun o => ((below_alloc (Below.refl W.heap.size W) o).cell (p := ⟨w.heap.size, 3, none⟩) (by show w.heap.size < W.heap.size; omega)).trans c3
  go_enter Try.func48, Try.ntmps48
  go_wp2_with (first
    | (go_at_call 47; ((with_reducible refine (C.out _).mono ?_); rintro e w1 ⟨A1, c1, rfl, hb, ho⟩; have O0 := Aside0.mk (own_then (lit1g W 159 w.heap.size (w.heap.size + 1) BB.out.size hsz) hb); have B1 := Aside0.mk (below_step (below_alloc BB.out _) hb); have R1 := Aside0.mk (own_reads' ho); clear hb ho))
    | (at_builtin; (refine print_append_row (w0 := w) w.heap.size rfl (.tmp 82) (.tmp 85) 62 5 .u8 1 rfl Try.underlying62 info5 (by decide) _ [159] (putS val 4) A1 4 c1 rfl rfl O0.out R1.out B1.out B1.out.size (by decide) ?_; intro v1 w2 ho hb hg hat; have O2 := Aside0.mk ho; have B2 := Aside0.mk hb; clear ho hb hg hat)))
  go_ret2
  obtain ⟨A2, c2, rfl⟩ := own_val O2.out
  exact ⟨A2, c2, rfl, B2.out, O2.out⟩
set_option maxRecDepth 100000 in
set_option maxHeartbeats 4000000 in
theorem first_none (w : World) (kd reg idx val by_ n : Int) (h : kd < 0 ∨ (0 < kd ∧ kd < 5) ∨ 13 < kd) :
    Calls Try.prog 48 #[.agg #[.int .i64 kd, .int .i64 reg, .int .i64 idx, .int .u32 val, .int .i64 by_], .int .i64 n] w (FPost w [] false) := by
  have h0 : (kd == 0) = false := beq_eq_false_iff_ne.2 (by omega)
  have h5 : (kd == 5) = false := beq_eq_false_iff_ne.2 (by omega)
  have h6 : (kd == 6) = false := beq_eq_false_iff_ne.2 (by omega)
  have h7 : (kd == 7) = false := beq_eq_false_iff_ne.2 (by omega)
  have h8 : (kd == 8) = false := beq_eq_false_iff_ne.2 (by omega)
  have h9 : (kd == 9) = false := beq_eq_false_iff_ne.2 (by omega)
  have h10 : (kd == 10) = false := beq_eq_false_iff_ne.2 (by omega)
  have h11 : (kd == 11) = false := beq_eq_false_iff_ne.2 (by omega)
  have h12 : (kd == 12) = false := beq_eq_false_iff_ne.2 (by omega)
  have h13 : (kd == 13) = false := beq_eq_false_iff_ne.2 (by omega)
  clear h
  go_enter Try.func48, Try.ntmps48
  go_wp2
  go_ret2
  exact ⟨none, 0, rfl, below_alloc (Below.refl _ _) _, World.ownsRow_nil _ _ _ _⟩
/-- Behind one byte a row is laid, in a region that draws. -/
theorem step_app1 {ops : Array Oper} {o : Oper} {a : Act} {w : World} {K : Act → World → Prop} {Q : Exit → Act → World → Prop} {E : Prop}
    (hg : o.guard = none) (s x : Operand) (hop : o.op = Op.call { callee := Callee.builtin Builtin.append, args := #[s, x], argTypes := #[62, 62] }) (hty : o.type = 62)
    (base g n c : Nat) (X : Int) (l : List Int) (A : Option Addr) (hs : a.eval s = .slice (some ⟨g, 0, none⟩) 1 1) (hx : a.eval x = .slice A n c)
    (hn : n ≤ 4) (hR : ReadsInt w .u8 A n l) (hO : w.ownsRow base 5 1 (.slice (some ⟨g, 0, none⟩) 1 1) 1 (nums .u8 [X])) (hb : base ≤ w.heap.size)
    (hK : ∀ v2 w2, w2.ownsRow base 5 1 v2 (X :: l).length (nums .u8 (X :: l)) → Below base w w2 → K (a.put o.dst v2) w2) :
    if Region.wanted o (yielded ops a.tmps) = true then Oper.wp Try.prog o a w K Q else E := by
  obtain ⟨v1, w2, r1, r2, r3, r4⟩ := ap_run w base (.slice (some ⟨g, 0, none⟩) 1 1) [X] l A n c hO hR hb (by show 1 + n ≤ _; omega)
  exact step_append_run hg s x 62 hop _ _ v1 w2 hs hx (by rw [hty]; exact r1) (hK v1 w2 r2 r3)
/-- The box of a specifier, and what lies above it. -/
structure BoxCtx (w W : World) (kd reg val : Int) : Prop where
  size : W.heap.size = w.heap.size + 1
  bel : Below w.heap.size w W
  c0 : W.cell? ⟨w.heap.size, 0, none⟩ = some (.int .i64 kd)
  c1 : W.cell? ⟨w.heap.size, 1, none⟩ = some (.int .i64 reg)
  c3 : W.cell? ⟨w.heap.size, 3, none⟩ = some (.int .u32 val)
theorem BoxCtx.at_ {w W W' : World} {kd reg val : Int} (h : BoxCtx w W kd reg val) (b : Below W.heap.size W W') : W'.cell? ⟨w.heap.size, 0, none⟩ = some (.int .i64 kd) ∧ W'.cell? ⟨w.heap.size, 1, none⟩ = some (.int .i64 reg) ∧ W'.cell? ⟨w.heap.size, 3, none⟩ = some (.int .u32 val) := by
  have hl : w.heap.size < W.heap.size := by have := h.size; omega
  exact ⟨(b.cell (p := ⟨w.heap.size, 0, none⟩) hl).trans h.c0, (b.cell (p := ⟨w.heap.size, 1, none⟩) hl).trans h.c1, (b.cell (p := ⟨w.heap.size, 3, none⟩) hl).trans h.c3⟩
theorem box_ctx (w : World) (kd reg idx val by_ : Int) : BoxCtx w (w.alloc (.cells #[.int .i64 kd, .int .i64 reg, .int .i64 idx, .int .u32 val, .int .i64 by_] 66 (0, 0))) kd reg val :=
  ⟨by simp, below_alloc (Below.refl _ _) _, by simp, by simp, by simp⟩
theorem lit3 (W : World) (g : Nat) (hg : W.heap.size = g) (W' : World) (b : Below (W.heap.size + 1) (W.alloc (.cells #[.int .i64 1, .int .i64 2, .int .i64 4] 3)) W') : W'.cell? ⟨g, 0, none⟩ = some (.int .i64 1) ∧ W'.cell? ⟨g, 1, none⟩ = some (.int .i64 2) ∧ W'.cell? ⟨g, 2, none⟩ = some (.int .i64 4) := by
  subst hg
  have b' : Below (W.alloc (.cells #[.int .i64 1, .int .i64 2, .int .i64 4] 3)).heap.size (W.alloc (.cells #[.int .i64 1, .int .i64 2, .int .i64 4] 3)) W' := by rw [show (W.alloc (.cells #[.int .i64 1, .int .i64 2, .int .i64 4] 3)).heap.size = W.heap.size + 1 from by simp]; exact b
  have hl : W.heap.size < (W.alloc (.cells #[.int .i64 1, .int .i64 2, .int .i64 4] 3)).heap.size := by simp
  exact ⟨(b'.cell (p := ⟨W.heap.size, 0, none⟩) hl).trans (by simp), (b'.cell (p := ⟨W.heap.size, 1, none⟩) hl).trans (by simp), (b'.cell (p := ⟨W.heap.size, 2, none⟩) hl).trans (by simp)⟩
/-- The sizes that are tried; which is taken. -/
def szAt (j : Nat) : Nat := 2 ^ j
theorem szAt_sz {j : Nat} (h : j < 3) : Sz (szAt j) := by
  rcases (by omega : j = 0 ∨ j = 1 ∨ j = 2) with rfl | rfl | rfl <;> simp [szAt, Sz]
set_option maxRecDepth 100000 in
set_option maxHeartbeats 4000000 in
theorem first_10 (w : World) (r val j0 : Nat) (reg idx by_ n : Int) (hr : r < 16) (h : Go.bits .and .i64 reg 15 = r) (hv : val < 4294967296) (hj0 : j0 < 3) (hyes : extD val (szAt j0) = val) (hno : ∀ j, j < j0 → extD val (szAt j) ≠ val) :
    Calls Try.prog 48 #[.agg #[.int .i64 10, .int .i64 reg, .int .i64 idx, .int .u32 val, .int .i64 by_], .int .i64 n] w (FPost w ((((10 + 2 * j0) * 16 + r : Nat) : Int) :: putS val (szAt j0)) true) := by
  have BX := box_ctx w 10 reg idx val by_
  obtain ⟨W, hW⟩ : ∃ W, w.alloc (.cells #[.int .i64 10, .int .i64 reg, .int .i64 idx, .int .u32 val, .int .i64 by_] 66 (0, 0)) = W := ⟨_, rfl⟩
  rw [hW] at BX
  have hsz := BX.size
  have C := Aside0.mk BX
  have c0 := BX.c0
  have c1 := BX.c1
  have c3 := BX.c3
  have HY := Aside0.mk hyes
  have HNO := Aside0.mk hno
  have HR := Aside0.mk (or_reg (10 + 2 * j0) r reg (by omega) hr h)
  have LT := Aside0.mk (lit3 W _ hsz)
  have PC := Aside0.mk (fun (w : World) (k : Nat) (hk : k ≤ 4) => put_call w val k hv hk)
  have HBE := Aside0.mk (BX.bel)
  clear BX hyes hno h
  go_enter Try.func48, Try.ntmps48
  go_wp2_with fail
  go_loopw [42] (fun i wr => ∃ j : Nat, j ≤ j0 ∧ i = .int .i64 j ∧ Aside0 (Below (W.heap.size + 1) (W.alloc (.cells #[.int .i64 1, .int .i64 2, .int .i64 4] 3)) wr)) (fun i _ => 3 - (intOf i).toNat)
  case atStart => exact ⟨0, Nat.zero_le _, rfl, ⟨Below.refl _ _⟩⟩
  case round =>
    obtain ⟨j, hj, rfl, B⟩ := hrel
    have hj3 : j < 3 := by omega
    have bel : Below W.heap.size W wr := (below_alloc (Below.refl _ _) _).trans (B.out.mono (by omega))
    have D := Aside0.mk (fun W' (b : Below W.heap.size W W') => C.out.at_ b)
    obtain ⟨d0, d1, d3⟩ := D.out wr bel
    obtain ⟨l0, l1, l2⟩ := LT.out wr B.out
    have BEL := Aside0.mk bel
    have EX := Aside0.mk (fun w => ext_call w val (szAt j) hv (szAt_sz hj3))
    have PZ := Aside0.mk (fun w => PC.out w (szAt j) (by rcases szAt_sz hj3 with h | h | h <;> omega))
    by_cases hjj : j = j0
    · subst hjj
      rw [HY.out] at EX
      clear bel
      rcases (by omega : j = 0 ∨ j = 1 ∨ j = 2) with rfl | rfl | rfl
      all_goals
        go_wp2
        go_quiet ((go_at_call 46; exact Calls.quiet_of (EX.out _)))
        go_wp2
        go_region_held3 (fun W' => W'.cell? ⟨w.heap.size, 0, none⟩ = some (.int .i64 10) ∧ W'.cell? ⟨w.heap.size, 1, none⟩ = some (.int .i64 reg) ∧ W'.cell? ⟨w.heap.size, 3, none⟩ = some (.int .u32 val))
          (first | exact D.out _ (by repeat (first | (with_reducible first | assumption | exact BEL.out | apply below_alloc | apply pw_below_drewN | apply below_drew1))))
          (first
          | (go_at_call 47; (refine (PZ.out _).mono ?_); rintro e w1 ⟨A1, c1, rfl, hb, ho⟩; have hbe1 : Below W.heap.size W w1 := below_step (by repeat (first | (with_reducible first | assumption | exact BEL.out | apply below_alloc | apply pw_below_drewN | apply below_drew1))) hb)
          | (refine step_app1 rfl (.tmp 65) (.tmp 69) rfl rfl W.heap.size _ _ _ _ _ _ rfl rfl (by decide) (by first | exact own_reads' ho | exact (own_reads' ho).allocS _) (by first | exact own_then (lit1g (wr.drewN _) _ W.heap.size wr.heap.size BEL.out.size rfl) hb | exact lit1g w1 _ W.heap.size w1.heap.size hbe1.size rfl) (below_size (by repeat (first | (with_reducible first | assumption | exact BEL.out | apply below_alloc | apply pw_below_drewN | apply below_drew1)))) ?_; intro v2 w2 O2 hbe2; have hbe3 : Below W.heap.size W w2 := ((by repeat (first | (with_reducible first | assumption | exact BEL.out | apply below_alloc | apply pw_below_drewN | apply below_drew1))) : Below W.heap.size W _).trans hbe2))
        all_goals
          go_wp2
          go_ret2
          obtain ⟨A2, c2, rfl⟩ := own_val O2
          rw [← HR.out]
          exact ⟨A2, c2, rfl, HBE.out.trans (hbe3.mono HBE.out.size), own_lower O2 HBE.out.size⟩
    · have hlt : j < j0 := by omega
      have hne := HNO.out j hlt
      obtain ⟨y, hy⟩ : ∃ y, extD val (szAt j) = y := ⟨_, rfl⟩
      rw [hy] at EX hne
      have hne' : ((y : Int) == (val : Int)) = false := beq_eq_false_iff_ne.2 (fun e => hne (by omega))
      have HJ := Aside0.mk hlt
      clear bel hy
      rcases (by omega : j = 0 ∨ j = 1) with rfl | rfl
      all_goals
        go_wp2
        go_quiet ((go_at_call 46; exact Calls.quiet_of (EX.out _)))
        go_wp2
        go_roundw
        case rel => exact ⟨_, HJ.out, by go_num, ⟨pw_below_drewN B.out _⟩⟩
        case measure => simp [intOf]
set_option maxRecDepth 100000 in
set_option maxHeartbeats 4000000 in
theorem first_11 (w : World) (r val j0 : Nat) (reg idx by_ n : Int) (hr : r < 16) (h : Go.bits .and .i64 reg 15 = r) (hv : val < 4294967296) (hj0 : j0 < 3) (hyes : extD val (szAt j0) = val) (hno : ∀ j, j < j0 → extD val (szAt j) ≠ val) :
    Calls Try.prog 48 #[.agg #[.int .i64 11, .int .i64 reg, .int .i64 idx, .int .u32 val, .int .i64 by_], .int .i64 n] w (FPost w ((((11 + 2 * j0) * 16 + r : Nat) : Int) :: putS val (szAt j0)) true) := by
  have BX := box_ctx w 11 reg idx val by_
  obtain ⟨W, hW⟩ : ∃ W, w.alloc (.cells #[.int .i64 11, .int .i64 reg, .int .i64 idx, .int .u32 val, .int .i64 by_] 66 (0, 0)) = W := ⟨_, rfl⟩
  rw [hW] at BX
  have hsz := BX.size
  have C := Aside0.mk BX
  have c0 := BX.c0
  have c1 := BX.c1
  have c3 := BX.c3
  have HY := Aside0.mk hyes
  have HNO := Aside0.mk hno
  have HR := Aside0.mk (or_reg (11 + 2 * j0) r reg (by omega) hr h)
  have LT := Aside0.mk (lit3 W _ hsz)
  have PC := Aside0.mk (fun (w : World) (k : Nat) (hk : k ≤ 4) => put_call w val k hv hk)
  have HBE := Aside0.mk (BX.bel)
  clear BX hyes hno h
  go_enter Try.func48, Try.ntmps48
  go_wp2_with fail
  go_loopw [42] (fun i wr => ∃ j : Nat, j ≤ j0 ∧ i = .int .i64 j ∧ Aside0 (Below (W.heap.size + 1) (W.alloc (.cells #[.int .i64 1, .int .i64 2, .int .i64 4] 3)) wr)) (fun i _ => 3 - (intOf i).toNat)
  case atStart => exact ⟨0, Nat.zero_le _, rfl, ⟨Below.refl _ _⟩⟩
  case round =>
    obtain ⟨j, hj, rfl, B⟩ := hrel
    have hj3 : j < 3 := by omega
    have bel : Below W.heap.size W wr := (below_alloc (Below.refl _ _) _).trans (B.out.mono (by omega))
    have D := Aside0.mk (fun W' (b : Below W.heap.size W W') => C.out.at_ b)
    obtain ⟨d0, d1, d3⟩ := D.out wr bel
    obtain ⟨l0, l1, l2⟩ := LT.out wr B.out
    have BEL := Aside0.mk bel
    have EX := Aside0.mk (fun w => ext_call w val (szAt j) hv (szAt_sz hj3))
    have PZ := Aside0.mk (fun w => PC.out w (szAt j) (by rcases szAt_sz hj3 with h | h | h <;> omega))
    by_cases hjj : j = j0
    · subst hjj
      rw [HY.out] at EX
      clear bel
      rcases (by omega : j = 0 ∨ j = 1 ∨ j = 2) with rfl | rfl | rfl
      all_goals
        go_wp2
        go_quiet ((go_at_call 46; exact Calls.quiet_of (EX.out _)))
        go_wp2
        go_region_held3 (fun W' => W'.cell? ⟨w.heap.size, 0, none⟩ = some (.int .i64 11) ∧ W'.cell? ⟨w.heap.size, 1, none⟩ = some (.int .i64 reg) ∧ W'.cell? ⟨w.heap.size, 3, none⟩ = some (.int .u32 val))
          (first | exact D.out _ (by repeat (first | (with_reducible first | assumption | exact BEL.out | apply below_alloc | apply pw_below_drewN | apply below_drew1))))
          (first
          | (go_at_call 47; (refine (PZ.out _).mono ?_); rintro e w1 ⟨A1, c1, rfl, hb, ho⟩; have hbe1 : Below W.heap.size W w1 := below_step (by repeat (first | (with_reducible first | assumption | exact BEL.out | apply below_alloc | apply pw_below_drewN | apply below_drew1))) hb)
          | (refine step_app1 rfl (.tmp 65) (.tmp 69) rfl rfl W.heap.size _ _ _ _ _ _ rfl rfl (by decide) (by first | exact own_reads' ho | exact (own_reads' ho).allocS _) (by first | exact own_then (lit1g (wr.drewN _) _ W.heap.size wr.heap.size BEL.out.size rfl) hb | exact lit1g w1 _ W.heap.size w1.heap.size hbe1.size rfl) (below_size (by repeat (first | (with_reducible first | assumption | exact BEL.out | apply below_alloc | apply pw_below_drewN | apply below_drew1)))) ?_; intro v2 w2 O2 hbe2; have hbe3 : Below W.heap.size W w2 := ((by repeat (first | (with_reducible first | assumption | exact BEL.out | apply below_alloc | apply pw_below_drewN | apply below_drew1))) : Below W.heap.size W _).trans hbe2))
        all_goals
          go_wp2
          go_ret2
          obtain ⟨A2, c2, rfl⟩ := own_val O2
          rw [← HR.out]
          exact ⟨A2, c2, rfl, HBE.out.trans (hbe3.mono HBE.out.size), own_lower O2 HBE.out.size⟩
    · have hlt : j < j0 := by omega
      have hne := HNO.out j hlt
      obtain ⟨y, hy⟩ : ∃ y, extD val (szAt j) = y := ⟨_, rfl⟩
      rw [hy] at EX hne
      have hne' : ((y : Int) == (val : Int)) = false := beq_eq_false_iff_ne.2 (fun e => hne (by omega))
      have HJ := Aside0.mk hlt
      clear bel hy
      rcases (by omega : j = 0 ∨ j = 1) with rfl | rfl
      all_goals
        go_wp2
        go_quiet ((go_at_call 46; exact Calls.quiet_of (EX.out _)))
        go_wp2
        go_roundw
        case rel => exact ⟨_, HJ.out, by go_num, ⟨pw_below_drewN B.out _⟩⟩
        case measure => simp [intOf]
end Go.Proofs.Ytbgcbnlpjjhmhaa.SpecWalk
