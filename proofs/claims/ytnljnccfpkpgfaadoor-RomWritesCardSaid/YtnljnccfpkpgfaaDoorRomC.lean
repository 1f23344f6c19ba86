/- Rom: put, sum, and the document's bytes, check, walked. -/
import Derived.Test.YtnljnccfpkpgfaaDoorProg
import Derived.Below
import Derived.Deep.Draws
import Derived.Deep.AppendLies
import Derived.OwnWalk
import Derived.Laws.MakeOwn
import Derived.Laws.OwnMore
import Derived.Laws.CopyOwn
import Derived.Deep.OwnRows
import Derived.Tactics
import Derived.Laws.Slices
import Derived.WalkKit
import Derived.KernelRfl
import Derived.RowKit3
import Derived.Deep.LoopGhost
import Derived.Deep.QuietTactic
import Derived.BigQuiet
import Derived.WideLaws
import Derived.Deep.DeepCutAuto
import Derived.Deep.CutBlock
import Derived.Deep.RegionHeld3
import Derived.Laws.Rows
import Derived.OrdersHeld
import Derived.Laws.BitsLemmas
import Derived.RowKit
import Derived.Test.YtnljnccfpkpgfaaDoorWMore
import Derived.Test.YtnljnccfpkpgfaaDoorAid
import Derived.BigRegion
import Derived.Test.YtnljnccfpkpgfaaDoorRomB
namespace Go.Proofs.YtnljnccfpkpgfaaDoor.RomWalk
open Go.RowKit Go.Proofs.YtnljnccfpkpgfaaDoor.Aid Go.Proofs.YtnljnccfpkpgfaaDoorW.PrintWords Go.Proofs.YtnljnccfpkpgfaaDoorW.PrintLast Go.Proofs.YtnljnccfpkpgfaaDoorW.PrintMore
attribute [local go_sem] max2_int min2_int max_two min_two max_three min_three max_four min_four   -- for this text's walks alone
set_option linter.unusedVariables false
set_option linter.unusedSimpArgs false
theorem info5 : (Tryd.prog.info? 5).map (fun i => (i.zero, i.size, i.bytes)) = some (some (.int .u8 0), 1, 1) := by kernel_rfl
theorem own_val {W : World} {base e s n : Nat} {v : Value} {xs : List Value} (h : W.ownsRow base e s v n xs) : ∃ A c, v = .slice A n c := by
  rcases h.2 with ⟨rfl, rfl⟩ | ⟨b, c, cur, rfl, _⟩
  · exact ⟨none, 0, rfl⟩
  · exact ⟨_, c, rfl⟩
theorem own_some {W : World} {base e s n : Nat} {v : Value} {xs : List Value} (h : W.ownsRow base e s v (n + 1) xs) : ∃ b c, v = .slice (some ⟨b, 0, none⟩) (n + 1) c := by
  rcases h.2 with ⟨_, hn⟩ | ⟨b, c, cur, rfl, _⟩
  · omega
  · exact ⟨b, c, rfl⟩
theorem own_keep {W W' : World} {base e s n : Nat} {v : Value} {xs : List Value} (h : W.ownsRow base e s v n xs) (k : ∀ i, v.ownBlock = some i → W'.heap[i]? = W.heap[i]?) : W'.ownsRow base e s v n xs := by
  refine ⟨h.1, ?_⟩
  rcases h.2 with ⟨rfl, hn⟩ | ⟨b, c, cur, rfl, h0, h1, h2⟩
  · exact .inl ⟨rfl, hn⟩
  · exact .inr ⟨b, c, cur, rfl, h0, (k b rfl).trans h1, h2⟩
theorem own_lt' {W : World} {base e s n : Nat} {v : Value} {xs : List Value} (h : W.ownsRow base e s v n xs) (i : Nat) (hi : v.ownBlock = some i) : i < W.heap.size := by
  rcases h.2 with ⟨rfl, hn⟩ | ⟨b, c, cur, rfl, h0, h1, h2⟩
  · simp [Value.ownBlock] at hi
  · simp [Value.ownBlock] at hi
    subst hi
    exact (Array.getElem?_eq_some_iff.1 h1).1
theorem own_then {W W' : World} {base e s n : Nat} {v : Value} {xs : List Value} (h : W.ownsRow base e s v n xs) (k : Below W.heap.size W W') : W'.ownsRow base e s v n xs :=
  own_keep h (fun i hi => k.block i (own_lt' h i hi))
theorem own_lower {W : World} {base base' e s n : Nat} {v : Value} {xs : List Value} (h : W.ownsRow base e s v n xs) (hb : base' ≤ base) : W.ownsRow base' e s v n xs := by
  refine ⟨h.1, ?_⟩
  rcases h.2 with ⟨rfl, hn⟩ | ⟨b, c, cur, rfl, h0, h1⟩
  · exact .inl ⟨rfl, hn⟩
  · exact .inr ⟨b, c, cur, rfl, Nat.le_trans hb h0, h1⟩
theorem step_append_run {P : Program} {ops : Array Oper} {o : Oper} {a : Act} {w : World} {K : Act → World → Prop} {Q : Exit → Act → World → Prop} {E : Prop}
    (hg : o.guard = none) (s x : Operand) (t : TypeId) (hop : o.op = Op.call { callee := Callee.builtin Builtin.append, args := #[s, x], argTypes := #[t, t] })
    (vs vx v : Value) (w' : World) (hs : a.eval s = vs) (hx : a.eval x = vx) (hrun : (Builtin.append_ #[t, t] o.type #[vs, vx]).run P w = .ok v w') (hK : K (a.put o.dst v) w') :
    if Region.wanted o (yielded ops a.tmps) = true then Oper.wp P o a w K Q else E := by
  have hw : Region.wanted o (yielded ops a.tmps) = true := by simp [Region.wanted, hg]
  rw [if_pos hw]
  unfold Oper.wp
  simp [execOp, hop, resolve, invoke, builtin, hs, hx, hrun, Result.andThen]
  exact hK
set_option maxRecDepth 100000 in
theorem ap_run (W : World) (base : Nat) (v : Value) (xs ys : List Int) (A : Option Addr) (m c : Nat) (HO : W.ownsRow base 5 1 v xs.length (nums .u8 xs)) (HR : ReadsInt W .u8 A m ys) (hbase : base ≤ W.heap.size) (hl : xs.length + m ≤ 140737488355328) :
    ∃ v1 w1, (Builtin.append_ #[28, 28] 28 #[v, .slice A m c]).run Tryd.prog W = .ok v1 w1 ∧ w1.ownsRow base 5 1 v1 (xs ++ ys).length (nums .u8 (xs ++ ys)) ∧ Below base W w1 ∧ (v1.ownBlock = v.ownBlock ∨ v1.ownBlock = some W.heap.size) := by
  obtain ⟨i0, hi, hzz⟩ := Option.map_eq_some_iff.1 info5
  simp only [Prod.mk.injEq] at hzz
  obtain ⟨hz0, hz1, hz2⟩ := hzz
  have hm : ys.length = m := HR.1
  rcases A with _ | ad
  · have h0 : m = 0 := by
      rcases Nat.eq_zero_or_pos m with h0 | h0
      · exact h0
      · obtain ⟨ad, h, _⟩ := HR.2.2 h0
        cases h
    subst h0
    obtain rfl : ys = [] := List.eq_nil_of_length_eq_zero hm
    refine ⟨v, W, ?_, by simpa using HO, Below.refl _ _, .inl rfl⟩
    rcases HO.2 with ⟨rfl, hn⟩ | ⟨g, cap, cur, rfl, _, _, hnc, _⟩
    · simp [Builtin.append_, run_underlying Tryd.underlying28, sizeOf, typeInfo, hi, Builtin.lenOf, Builtin.firstCells]
    · simp [Builtin.append_, run_underlying Tryd.underlying28, sizeOf, typeInfo, hi, Builtin.lenOf, Builtin.firstCells, hnc, storeCells]
  · have hcells : ∀ j u, (nums .u8 ys)[j]? = some u → W.cell? (ad.add j) = some u := by
      intro j u hu
      have hj : j < ys.length := by
        rcases Nat.lt_or_ge j ys.length with h | h
        · exact h
        · simp [nums, List.getElem?_eq_none h] at hu
      obtain ⟨ad', h', hc⟩ := HR.2.2 (by omega)
      injection h' with h'
      subst h'
      have := hc j (by omega)
      simp [nums, List.getElem?_eq_getElem hj] at hu
      subst hu
      rw [this]
      simp [List.getD_eq_getElem?_getD, List.getElem?_eq_getElem hj]
    obtain ⟨v1, w1, hr, h2, h3, _, h5⟩ := run_append_own_at (P := Tryd.prog) W base 28 28 5 i0 (.int .u8 0) 1 1 Tryd.underlying28 hi hz0 hz1 hz2 rfl (by omega) v xs.length (nums .u8 xs) HO ad m c (nums .u8 ys) (by simp [nums, hm]) hcells
      (by intro u hu; simp only [nums, List.mem_map] at hu; obtain ⟨q, _, rfl⟩ := hu; rfl) (by simp only [maxLen]; omega) (by omega) hbase
    exact ⟨v1, w1, hr, by simpa [nums, hm] using h2, (Below.refl base W).grown h3 hbase (fun k hk => own_base HO k hk), h5⟩
def byL (x : Int) (n : Nat) : List Int := (List.range n).map fun i => x / 2 ^ (8 * i) % 256
theorem byL_length (x : Int) (n : Nat) : (byL x n).length = n := by unfold byL; rw [List.length_map, List.length_range]
theorem byL_next (x : Int) (j : Nat) : byL x (j + 1) = byL x j ++ [x / 2 ^ (8 * j) % 256] := by
  unfold byL; rw [List.range_succ, List.map_append]; rfl
theorem putS_byL : ∀ (n : Nat) (x : Int), putS x n = byL x n
  | 0, x => rfl
  | n + 1, x => by
    unfold byL
    rw [List.range_succ_eq_map, List.map_cons, List.map_map]
    show x % 256 :: putS (x / 256) n = _
    rw [putS_byL n (x / 256)]
    unfold byL
    congr 1
    · show x % 256 = x / 1 % 256
      rw [Int.ediv_one]
    · apply List.map_congr_left
      intro i _
      show x / 256 / 2 ^ (8 * i) % 256 = x / 2 ^ (8 * (i + 1)) % 256
      rw [Int.ediv_ediv_of_nonneg (by decide), show 8 * (i + 1) = 8 + 8 * i from by omega, Int.pow_add]
      rfl
set_option maxRecDepth 100000 in
set_option maxHeartbeats 4000000 in
/-- A number's bytes behind a row of one's own. -/
theorem put_call (w : World) (base : Nat) (A : Option Addr) (m c : Nat) (l : List Int) (x k : Nat) (hx : x < 18446744073709551616) (hk : k ≤ 8) (hm : l.length = m) (ho : w.ownsRow base 5 1 (.slice A m c) m (nums .u8 l)) (hb : base ≤ w.heap.size) (hl : m ≤ 1000000) :
    Calls Tryd.prog 20 #[.slice A m c, .int .u64 (x : Int), .int .i64 (k : Int)] w fun e w' => ∃ A' m' c', e = .returned (.slice A' m' c') ∧ Aside0 ((l ++ putS x k).length = m') ∧ w'.ownsRow base 5 1 (.slice A' m' c') m' (nums .u8 (l ++ putS x k)) ∧ Below base w w' := by
  rw [putS_byL]
  subst hm
  have HO := Aside0.mk ho
  have HB := Aside0.mk hb
  have HL := Aside0.mk hl
  clear ho hb hl
  go_enter Tryd.func20, Tryd.ntmps20
  go_wp2_with fail
  go_loopw [0, 9] (fun b i wr => ∃ j : Nat, j ≤ k ∧ i = .int .i64 j ∧ Aside0 (Below base w wr) ∧ Aside0 (wr.ownsRow base 5 1 b (l ++ byL x j).length (nums .u8 (l ++ byL x j)))) (fun _ i _ => k - (intOf i).toNat)
  case atStart => exact ⟨0, Nat.zero_le _, rfl, ⟨Below.refl _ _⟩, ⟨by rw [show byL (x : Int) 0 = [] from rfl, List.append_nil]; exact HO.out⟩⟩
  case round =>
    obtain ⟨j, hj, rfl, B, O⟩ := hrel
    obtain ⟨A1, c1, rfl⟩ := own_val O.out
    by_cases hjk : j = k
    · subst hjk
      go_wp2
      go_ret
      exact ⟨A1, _, c1, rfl, ⟨rfl⟩, O.out, B.out⟩
    · have hj' : j < k := by omega
      have HJ := Aside0.mk hj'
      have HX := Aside0.mk (byL_next (x : Int) j)
      have hlen : (l ++ byL (x : Int) j).length = l.length + j := by rw [List.length_append, byL_length]
      go_wp2_with (first
        | (at_builtin; refine print_append_num (w0 := w) base rfl (.tmp 12) (.tmp 18) 28 5 .u8 1 rfl Tryd.underlying28 info5 (by decide) (.slice A1 (l ++ byL x j).length c1) (l ++ byL x j) (x / 2 ^ (8 * j) % 256) rfl (by simp [Act.eval]) O.out B.out (Nat.le_trans HB.out B.out.size) (by rw [hlen]; have := HL.out; omega) ?_; intro o1 w1 ho1 hb1 hg1 hat1; have O1 := Aside0.mk ho1; have B1 := Aside0.mk hb1; clear ho1 hb1 hg1 hat1))
      go_roundw
      case rel => exact ⟨j + 1, HJ.out, by go_num, B1, ⟨by rw [HX.out, ← List.append_assoc]; exact O1.out⟩⟩
      case measure => have := HJ.out; simp [intOf]; omega
set_option maxRecDepth 100000 in
set_option maxHeartbeats 4000000 in
/-- The document's bytes of a number. -/
theorem rbytes_call (w : World) (x k : Nat) (hx : x < 18446744073709551616) (hk : k ≤ 8) :
    Calls Tryd.prog 22 #[.int .u64 (x : Int), .int .i64 (k : Int)] w fun e w' => ∃ A c, e = .returned (.slice A k c) ∧ w'.ownsRow w.heap.size 5 1 (.slice A k c) k (nums .u8 (putS x k)) ∧ Below w.heap.size w w' := by
  go_enter Tryd.func22, Tryd.ntmps22
  rw [putS_byL]
  have HK := Aside0.mk hk
  go_wp2_with fail
  go_loopw [0, 5, 6] (fun y b i wr => ∃ j : Nat, j ≤ k ∧ i = .int .i64 j ∧ y = .int .u64 ((x / 2 ^ (8 * j) : Nat) : Int) ∧ Aside0 (Below w.heap.size w wr) ∧ Aside0 (wr.ownsRow w.heap.size 5 1 b (byL x j).length (nums .u8 (byL x j)))) (fun _ _ i _ => k - (intOf i).toNat)
  case atStart => exact ⟨0, Nat.zero_le _, rfl, by simp, ⟨Below.refl _ _⟩, ⟨World.ownsRow_nil _ _ _ _⟩⟩
  case round =>
    obtain ⟨j, hj, rfl, rfl, B, O⟩ := hrel
    obtain ⟨A1, c1, rfl⟩ := own_val O.out
    by_cases hjk : j = k
    · subst hjk
      have HL := Aside0.mk (byL_length (x : Int) j)
      have O2 := O.out
      rw [byL_length] at O2
      have O2 := Aside0.mk O2
      go_wp2
      go_ret
      exact ⟨A1, c1, by rw [HL.out]; rfl, O2.out, B.out⟩
    · have hj' : j < k := by omega
      have HJ := Aside0.mk hj'
      have HX := Aside0.mk (byL_next (x : Int) j)
      have hlen : (byL (x : Int) j).length = j := byL_length _ _
      obtain ⟨X, hX⟩ : ∃ X : Nat, x / 2 ^ (8 * j) = X := ⟨_, rfl⟩
      have hX1 : X < 18446744073709551616 := by rw [← hX]; exact Nat.lt_of_le_of_lt (Nat.div_le_self _ _) hx
      have hX2 : (x : Int) / 2 ^ (8 * j) % 256 = (X : Int) % 256 := by rw [← hX, Int.natCast_ediv, Int.natCast_pow]; rfl
      have hX3 : x / 2 ^ (8 * (j + 1)) = X / 256 := by rw [← hX, Nat.div_div_eq_div_mul, show 8 * (j + 1) = 8 * j + 8 from by omega, Nat.pow_add]
      have HX2 := Aside0.mk hX2
      have HX3 := Aside0.mk hX3
      rw [hX]
      clear hX hX2 hX3
      go_wp2_with (first
        | (at_builtin; refine print_append_num (w0 := w) w.heap.size rfl (.tmp 12) (.tmp 16) 28 5 .u8 1 rfl Tryd.underlying28 info5 (by decide) (.slice A1 (byL x j).length c1) (byL x j) ((X : Int) % 256) rfl (by simp [Act.eval]) O.out B.out B.out.size (by rw [hlen]; omega) ?_; intro o1 w1 ho1 hb1 hg1 hat1; have O1 := Aside0.mk ho1; have B1 := Aside0.mk hb1; clear ho1 hb1 hg1 hat1))
      go_roundw
      case rel => exact ⟨j + 1, HJ.out, by go_num, by rw [HX3.out, Int.natCast_ediv]; rfl, B1, ⟨by rw [HX.out, HX2.out]; exact O1.out⟩⟩
      case measure => have := HJ.out; simp [intOf]; omega
theorem sum_next (l : List Int) (j : Nat) (hj : j < l.length) : sumP (l.take (j + 1)) = sumA (sumP (l.take j)) (l.getD j 0) := by
  unfold sumP
  rw [List.take_add_one, List.getElem?_eq_getElem hj, List.foldl_append, List.getD_eq_getElem?_getD, List.getElem?_eq_getElem hj]
  rfl
theorem sum_or (a c : Int) (ha : 0 ≤ a) (ha' : a < 65521) (hc : 0 ≤ c) (hc' : c < 65521) : Go.bits .or .u64 (c * 65536) a = 65536 * c + a := by
  obtain ⟨a, rfl⟩ : ∃ n : Nat, a = n := ⟨a.toNat, by omega⟩
  obtain ⟨c, rfl⟩ : ∃ n : Nat, c = n := ⟨c.toNat, by omega⟩
  have h := Nat.shiftLeft_add_eq_or_of_lt (show a < 2 ^ 16 by omega) c
  have e : ((c : Int) * 65536) = ((c * 2 ^ 16 : Nat) : Int) := by omega
  rw [e, u64_or_nat (c * 2 ^ 16) a (by omega) (by omega), ← Nat.shiftLeft_eq, ← h, Nat.shiftLeft_eq]
  omega
set_option maxRecDepth 100000 in
set_option maxHeartbeats 4000000 in
/-- The check of bytes, as the program reckons it. -/
theorem sum_call (w : World) (A : Option Addr) (n c : Nat) (l : List Int) (hl : Bys l) (hr : ReadsInt w .u8 A n l) :
    Calls Tryd.prog 21 #[.slice A n c] w fun e w' => e = .returned (.int .u64 (sumS l)) ∧ w = w' := by
  have HR := Aside0.mk hr
  have HL := Aside0.mk hl
  have hn := hr.1
  have hnb := hr.2.1
  clear hr hl
  go_enter Tryd.func21, Tryd.ntmps21
  go_wp2_with fail
  go_loopw [3, 4, 9] (fun a b i wr => ∃ j : Nat, j ≤ n ∧ i = .int .i64 j ∧ a = .int .u64 (sumP (l.take j)).1 ∧ b = .int .u64 (sumP (l.take j)).2 ∧ w = wr) (fun _ _ i _ => n - (intOf i).toNat)
  case atStart => exact ⟨0, Nat.zero_le _, rfl, rfl, rfl, rfl⟩
  case round =>
    obtain ⟨j, hj, rfl, rfl, rfl, rfl⟩ := hrel
    have bd := sumP_bnd (l.take j)
    obtain ⟨a, ha⟩ : ∃ a, (sumP (l.take j)).1 = a := ⟨_, rfl⟩
    obtain ⟨b, hb⟩ : ∃ b, (sumP (l.take j)).2 = b := ⟨_, rfl⟩
    have HA := Aside0.mk ha
    have HB := Aside0.mk hb
    rw [ha, hb] at bd
    rw [ha, hb]
    obtain ⟨b0, b1, b2, b3⟩ := bd
    clear ha hb
    by_cases hjn : j = n
    · subst hjn
      have HO := Aside0.mk (sum_or a b b0 b1 b2 b3)
      go_wp2
      go_ret
      refine ⟨?_, rfl⟩
      have e : l.take j = l := List.take_of_length_le (by omega)
      unfold sumS
      rw [← e, HA.out, HB.out]
      exact congrArg (fun q => Ending.returned (Value.int IntKind.u64 q)) HO.out
    · have hj' : j < n := by omega
      have HJ := Aside0.mk hj'
      obtain ⟨ad, rfl, hc⟩ := HR.out.2.2 (by omega)
      have cj := hc j hj'
      have hx := HL.out.get j
      have hs := sum_next l j (by omega)
      unfold sumA at hs
      rw [HA.out, HB.out] at hs
      generalize l.getD j 0 = x at *
      have HS := Aside0.mk hs
      obtain ⟨x0, x1⟩ := hx
      have ab : 0 ≤ (a + x) % 65521 ∧ (a + x) % 65521 < 65521 := by omega
      clear hc hs
      go_wp2
      go_roundw
      case rel => exact ⟨j + 1, HJ.out, by go_num, by rw [HS.out], by rw [HS.out], trivial⟩
      case measure => have := HJ.out; simp [intOf]; omega
set_option maxRecDepth 100000 in
set_option maxHeartbeats 4000000 in
/-- The check of bytes, as the document reckons it. -/
theorem check_call (w : World) (A : Option Addr) (n c : Nat) (l : List Int) (hl : Bys l) (hr : ReadsInt w .u8 A n l) :
    Calls Tryd.prog 23 #[.slice A n c] w fun e w' => e = .returned (.int .u64 (sumS l)) ∧ w = w' := by
  have HR := Aside0.mk hr
  have HL := Aside0.mk hl
  have hn := hr.1
  have hnb := hr.2.1
  clear hr hl
  go_enter Tryd.func23, Tryd.ntmps23
  go_wp2_with fail
  go_loopw [3, 4, 9] (fun a b i wr => ∃ j : Nat, j ≤ n ∧ i = .int .i64 j ∧ a = .int .u64 (sumP (l.take j)).1 ∧ b = .int .u64 (sumP (l.take j)).2 ∧ w = wr) (fun _ _ i _ => n - (intOf i).toNat)
  case atStart => exact ⟨0, Nat.zero_le _, rfl, rfl, rfl, rfl⟩
  case round =>
    obtain ⟨j, hj, rfl, rfl, rfl, rfl⟩ := hrel
    have bd := sumP_bnd (l.take j)
    obtain ⟨a, ha⟩ : ∃ a, (sumP (l.take j)).1 = a := ⟨_, rfl⟩
    obtain ⟨b, hb⟩ : ∃ b, (sumP (l.take j)).2 = b := ⟨_, rfl⟩
    have HA := Aside0.mk ha
    have HB := Aside0.mk hb
    rw [ha, hb] at bd
    rw [ha, hb]
    obtain ⟨b0, b1, b2, b3⟩ := bd
    clear ha hb
    by_cases hjn : j = n
    · subst hjn
      go_wp2
      go_ret
      refine ⟨?_, rfl⟩
      have e : l.take j = l := List.take_of_length_le (by omega)
      unfold sumS
      rw [← e, HA.out, HB.out]
      rfl
    · have hj' : j < n := by omega
      have HJ := Aside0.mk hj'
      obtain ⟨ad, rfl, hc⟩ := HR.out.2.2 (by omega)
      have cj := hc j hj'
      have hx := HL.out.get j
      have hs := sum_next l j (by omega)
      unfold sumA at hs
      rw [HA.out, HB.out] at hs
      generalize l.getD j 0 = x at *
      have HS := Aside0.mk hs
      obtain ⟨x0, x1⟩ := hx
      have ab : 0 ≤ (a + x) % 65521 ∧ (a + x) % 65521 < 65521 := by omega
      clear hc hs
      go_wp2
      go_roundw
      case rel => exact ⟨j + 1, HJ.out, by go_num, by rw [HS.out], by rw [HS.out], trivial⟩
      case measure => have := HJ.out; simp [intOf]; omega
end Go.Proofs.YtnljnccfpkpgfaaDoor.RomWalk
