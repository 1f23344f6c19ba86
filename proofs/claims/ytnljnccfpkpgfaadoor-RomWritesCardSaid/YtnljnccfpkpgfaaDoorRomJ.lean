/- Rom: Encode, walked. -/
import Derived.Test.YtnljnccfpkpgfaaDoorRomI
import Derived.Deep.RegionHeld3
namespace Go.Proofs.YtnljnccfpkpgfaaDoor.RomWalk
open Go.RowKit Go.Proofs.YtnljnccfpkpgfaaDoor.Aid Go.Proofs.YtnljnccfpkpgfaaDoorW.PrintWords Go.Proofs.YtnljnccfpkpgfaaDoorW.PrintLast Go.Proofs.YtnljnccfpkpgfaaDoorW.PrintMore
attribute [local go_sem] max2_int min2_int max_two min_two max_three min_three max_four min_four   -- for this text's walks alone
set_option linter.unusedVariables false
set_option linter.unusedSimpArgs false
/-- What has come up, as bits. -/
def bz (m n : Nat) : Array Bool := ((List.range m).map (fun i => n.testBit i)).toArray
def hdrS (n m : Nat) : List Int := [67, 65, 77, 82] ++ (putS n 2 ++ putS m 1)
theorem hdr_len (n m : Nat) : (hdrS n m).length = 7 := by
  unfold hdrS
  simp only [List.length_append, putS_length, List.length_cons, List.length_nil]
theorem body_eq (ws : List Int) (es : Ents) : bodyS ws es = hdrS ws.length es.length ++ wrdS ws ++ entsS es := by
  unfold bodyS hdrS
  simp only [List.append_assoc]
theorem wrd_next (ws : List Int) (j : Nat) (hj : j < ws.length) : wrdS (ws.take (j + 1)) = wrdS (ws.take j) ++ putS (ws.getD j 0) 8 := by
  unfold wrdS
  rw [List.take_add_one, List.getElem?_eq_getElem hj, List.flatMap_append, List.getD_eq_getElem?_getD, List.getElem?_eq_getElem hj]
  simp
theorem ent_next (es : Ents) (j : Nat) (hj : j < es.length) : entsS (es.take (j + 1)) = entsS (es.take j) ++ entS (es.getD j default) := by
  unfold entsS
  rw [List.take_add_one, List.getElem?_eq_getElem hj, List.flatMap_append, List.getD_eq_getElem?_getD, List.getElem?_eq_getElem hj]
  simp
theorem wrd_len (ws : List Int) : (wrdS ws).length = 8 * ws.length := by
  induction ws with
  | nil => rfl
  | cons x t ih => show (putS x 8 ++ wrdS t).length = _; rw [List.length_append, putS_length, ih, List.length_cons]; omega
theorem ents_len (es : Ents) (h : ∀ e ∈ es, e.1.size ≤ 24) : (entsS es).length ≤ 27 * es.length := by
  induction es with
  | nil => exact Nat.le_refl 0
  | cons x t ih =>
    show (entS x ++ entsS t).length ≤ _
    have := ih (fun e he => h e (List.mem_cons_of_mem _ he))
    have hx := h x List.mem_cons_self
    rw [List.length_append, entS_len, List.length_cons]; omega
theorem good_size {ws : List Int} {es : Ents} (h : goodS ws es = true) : ∀ e ∈ es, e.1.size ≤ 24 := by
  intro e he
  obtain ⟨i, hi, rfl⟩ := List.mem_iff_getElem.1 he
  have := (good_parts h).2.2 i hi
  rw [okE_eq] at this
  simp only [Bool.and_eq_true, List.getD_eq_getElem?_getD, List.getElem?_eq_getElem hi, Option.getD_some] at this
  have h2 := this.1.1.1
  unfold nameS at h2
  simp only [Bool.and_eq_true, decide_eq_true_eq] at h2
  exact h2.1.1.2
theorem lit_reads (W : World) : ReadsInt (W.alloc (.cells #[.int .u8 67, .int .u8 65, .int .u8 77, .int .u8 82] 5 (4, 5))) .u8 (some ⟨W.heap.size, 0, none⟩) 4 [67, 65, 77, 82] := by
  refine ⟨rfl, by decide, fun _ => ⟨_, rfl, fun j hj => ?_⟩⟩
  rw [show ((⟨W.heap.size, 0, none⟩ : Addr).add j) = ⟨W.heap.size, j, none⟩ from by simp [Addr.add]; omega]
  rw [cell_of_row _ _ _ _ _ _ (heap_alloc_new W _)]
  rcases (by omega : j = 0 ∨ j = 1 ∨ j = 2 ∨ j = 3) with rfl | rfl | rfl | rfl <;> rfl
/-- Blocks that hold no bytes stay. -/
def KeepN (W W' : World) : Prop := ∀ (b : Nat) (cs : Array Value) (ty : TypeId) (fr : Nat × Nat), W.heap[b]? = some (.cells cs ty fr) → ty ≠ 5 → W'.heap[b]? = some (.cells cs ty fr)
theorem KeepN.refl (W : World) : KeepN W W := fun _ _ _ _ h _ => h
theorem KeepN.trans {a b c : World} (h : KeepN a b) (k : KeepN b c) : KeepN a c := fun i cs ty fr hi hn => k i cs ty fr (h i cs ty fr hi hn) hn
theorem KeepN.below {a W W' : World} (h : KeepN a W) (k : Below W.heap.size W W') : KeepN a W' := h.trans fun b cs ty fr hb _ => (k.block b (Array.getElem?_eq_some_iff.1 hb).1).trans hb
theorem KeepN.drew {a W : World} (h : KeepN a W) : KeepN a W.drew := h
theorem KeepN.grown {a W W' : World} {base n : Nat} {v : Value} {xs : List Value} (h : KeepN a W) (o : W.ownsRow base 5 1 v n xs) (g : W.grownBy W' v.ownBlock) : KeepN a W' :=
  h.trans fun b cs ty fr hb hn => (g.block b (Array.getElem?_eq_some_iff.1 hb).1 (fun e => by
    rcases o.2 with ⟨rfl, _⟩ | ⟨g', cap, cur, rfl, _, h1, _⟩
    · simp [Value.ownBlock] at e
    · simp [Value.ownBlock] at e
      subst e
      rw [hb] at h1
      simp only [Option.some.injEq, Obj.cells.injEq] at h1
      exact hn h1.2.1)).trans hb
set_option maxRecDepth 100000 in
set_option maxHeartbeats 4000000 in
/-- A number's bytes behind a row of one's own; what holds no bytes stays. -/
theorem put_q (w : World) (base : Nat) (A : Option Addr) (m c : Nat) (l : List Int) (x k : Nat) (q : Int) (hq : (k : Int) = q) (hx : x < 18446744073709551616) (hk : k ≤ 8) (hm : l.length = m) (ho : w.ownsRow base 5 1 (.slice A m c) m (nums .u8 l)) (hb : base ≤ w.heap.size) (hl : m ≤ 1000000) :
    Calls Tryd.prog 20 #[.slice A m c, .int .u64 (x : Int), .int .i64 q] w fun e w' => ∃ A' m' c', e = .returned (.slice A' m' c') ∧ Aside0 ((l ++ putS x k).length = m') ∧ w'.ownsRow base 5 1 (.slice A' m' c') m' (nums .u8 (l ++ putS x k)) ∧ Below base w w' ∧ KeepN w w' := by
  subst hq
  rw [putS_byL]
  subst hm
  have HO := Aside0.mk ho
  have HB := Aside0.mk hb
  have HL := Aside0.mk hl
  clear ho hb hl
  go_enter Tryd.func20, Tryd.ntmps20
  go_wp2_with fail
  go_loopw [0, 9] (fun b i wr => ∃ j : Nat, j ≤ k ∧ i = .int .i64 j ∧ Aside0 (Below base w wr) ∧ Aside0 (KeepN w wr) ∧ Aside0 (wr.ownsRow base 5 1 b (l ++ byL x j).length (nums .u8 (l ++ byL x j)))) (fun _ i _ => k - (intOf i).toNat)
  case atStart => exact ⟨0, Nat.zero_le _, rfl, ⟨Below.refl _ _⟩, ⟨KeepN.refl _⟩, ⟨by rw [show byL (x : Int) 0 = [] from rfl, List.append_nil]; exact HO.out⟩⟩
  case round =>
    obtain ⟨j, hj, rfl, B, K, O⟩ := hrel
    obtain ⟨A1, c1, rfl⟩ := own_val O.out
    by_cases hjk : j = k
    · subst hjk
      go_wp2
      go_ret
      exact ⟨A1, _, c1, rfl, ⟨rfl⟩, O.out, B.out, K.out⟩
    · have hj' : j < k := by omega
      have HJ := Aside0.mk hj'
      have HX := Aside0.mk (byL_next (x : Int) j)
      have hlen : (l ++ byL (x : Int) j).length = l.length + j := by rw [List.length_append, byL_length]
      go_wp2_with (first
        | (at_builtin; refine print_append_num (w0 := w) base rfl (.tmp 12) (.tmp 18) 28 5 .u8 1 rfl Tryd.underlying28 info5 (by decide) (.slice A1 (l ++ byL x j).length c1) (l ++ byL x j) (x / 2 ^ (8 * j) % 256) rfl (by simp [Act.eval]) O.out B.out (Nat.le_trans HB.out B.out.size) (by rw [hlen]; have := HL.out; omega) ?_; intro o1 w1 ho1 hb1 hg1 hat1; have O1 := Aside0.mk ho1; have B1 := Aside0.mk hb1; have K1 := Aside0.mk (K.out.grown O.out hg1); clear ho1 hb1 hg1 hat1))
      go_roundw
      case rel => exact ⟨j + 1, HJ.out, by go_num, B1, K1, ⟨by rw [HX.out, ← List.append_assoc]; exact O1.out⟩⟩
      case measure => have := HJ.out; simp [intOf]; omega
theorem cells_nm (s : ByteArray) : Lib.strCells s = nums .u8 (nmB s) := by
  unfold Lib.strCells nums nmB
  rw [List.map_map]
  rfl
theorem app_str (W : World) (base : Nat) (A : Option Addr) (m c : Nat) (xs : List Int) (y : ByteArray) (hm : xs.length = m) (HO : W.ownsRow base 5 1 (.slice A m c) m (nums .u8 xs)) (hbase : base ≤ W.heap.size) (hl : m + y.size ≤ 1000000) :
    ∃ A' m' c' w1, (Builtin.append_ #[28, 9] 28 #[.slice A m c, .string y]).run Tryd.prog W = .ok (.slice A' m' c') w1 ∧ Aside0 ((xs ++ nmB y).length = m') ∧ w1.ownsRow base 5 1 (.slice A' m' c') m' (nums .u8 (xs ++ nmB y)) ∧ Below base W w1 ∧ KeepN W w1 := by
  obtain ⟨i0, hi, hz0, hz1, hz2⟩ := info5_parts
  obtain ⟨v1, w1, hr, h2, h3, _⟩ := Lib.run_append_own_string (P := Tryd.prog) W base 28 9 28 5 i0 Tryd.underlying28 Tryd.underlying9 hi hz0 hz1 hz2 (.slice A m c) m (nums .u8 xs) HO y (by simp only [maxLen]; omega) (by omega) hbase
  obtain ⟨A', c', rfl⟩ := own_val h2
  refine ⟨A', _, c', w1, hr, ⟨?_⟩, ?_, (Below.refl base W).grown h3 hbase (fun k hk => own_base HO k hk), (KeepN.refl W).grown HO h3⟩
  · rw [List.length_append, nmB_length, hm]
  · rw [cells_nm] at h2
    simpa [nums] using h2
theorem step_app_str {P : Program} {ops : Array Oper} {o : Oper} {a : Act} {w : World} {K : Act → World → Prop} {Q : Exit → Act → World → Prop} {E : Prop}
    (hg : o.guard = none) (s x : Operand) (t u : TypeId) (hop : o.op = Op.call { callee := Callee.builtin Builtin.append, args := #[s, x], argTypes := #[t, u] })
    (vs vx v : Value) (w' : World) (hs : a.eval s = vs) (hx : a.eval x = vx) (hrun : (Builtin.append_ #[t, u] o.type #[vs, vx]).run P w = .ok v w') (hK : K (a.put o.dst v) w') :
    if Region.wanted o (yielded ops a.tmps) = true then Oper.wp P o a w K Q else E := by
  have hw : Region.wanted o (yielded ops a.tmps) = true := by simp [Region.wanted, hg]
  rw [if_pos hw]
  unfold Oper.wp
  simp [execOp, hop, resolve, invoke, builtin, hs, hx, hrun, Result.andThen]
  exact hK
theorem put_lit (W : World) (n : Nat) (hn : n ≤ 2048) :
    Calls Tryd.prog 20 #[.slice (some ⟨W.heap.size, 0, none⟩) 4 4, .int .u64 (n : Int), .int .i64 2] ((W.alloc (.cells #[.int .u8 67, .int .u8 65, .int .u8 77, .int .u8 82] 5 (4, 5))).drew) fun e w' => ∃ A' m' c', e = .returned (.slice A' m' c') ∧ Aside0 (([67, 65, 77, 82] ++ putS n 2).length = m') ∧ w'.ownsRow W.heap.size 5 1 (.slice A' m' c') m' (nums .u8 ([67, 65, 77, 82] ++ putS n 2)) ∧ Below W.heap.size W w' := by
  refine (put_full (W.drew.alloc (.cells #[.int .u8 67, .int .u8 65, .int .u8 77, .int .u8 82] 5 (4, 5))) ⟨W.heap.size, 0, none⟩ 4 [67, 65, 77, 82] n 2 (by omega) (by decide) (by decide) (lit_reads W.drew) (by decide)).mono ?_
  rintro e w2 ⟨A2, m2, c2, rfl, hm2, ho2, hb2⟩
  exact ⟨A2, m2, c2, rfl, hm2, own_lower ho2 (by simp), (below_alloc (below_drew1 (Below.refl _ W)) _).trans (hb2.mono (by simp))⟩
set_option maxRecDepth 100000 in
set_option maxHeartbeats 4000000 in
theorem encode_bad (w : World) (A : Option Addr) (n c : Nat) (B : Option Addr) (m d : Nat) (ws : List Int) (es : Ents) (h : RomIn w A n c B m d ws es) (hg : goodS ws es = false) :
    Calls Tryd.prog 10 #[.agg #[.slice A n c, .slice B m d]] w fun e w' => e = .returned (.tuple #[.slice none 0 0, .int .i64 1]) ∧ Below w.heap.size w w' := by
  have BX := below_alloc (Below.refl w.heap.size w) (.cells #[.slice A n c, .slice B m d] 25 (0, 0))
  have GC := Aside0.mk (hg ▸ good_call _ A n c B m d ws es (h.then (below_alloc (Below.refl w.heap.size w) (.cells #[.slice A n c, .slice B m d] 25 (0, 0)))))
  have HB := Aside0.mk BX
  clear h BX hg
  go_enter Tryd.func10, Tryd.ntmps10
  go_wp2_with (first
    | (go_at_call 12; (with_reducible refine (GC.out).mono ?_); rintro e w1 ⟨rfl, hb⟩; have B1 := Aside0.mk (below_step HB.out hb); clear hb))
  go_ret2
  exact ⟨rfl, B1.out⟩
set_option maxRecDepth 100000 in
set_option maxHeartbeats 8000000 in
theorem encode_ok (w : World) (A : Option Addr) (n c : Nat) (B : Option Addr) (m d : Nat) (ws : List Int) (es : Ents) (hwr : WR ws) (h : RomIn w A n c B m d ws es) (hg : goodS ws es = true) :
    Calls Tryd.prog 10 #[.agg #[.slice A n c, .slice B m d]] w fun e w' => ∃ A' m' c', e = .returned (.tuple #[.slice A' m' c', .int .i64 0]) ∧ Aside0 ((encS ws es).length = m') ∧ w'.ownsRow w.heap.size 5 1 (.slice A' m' c') m' (nums .u8 (encS ws es)) ∧ Below w.heap.size w w' := by
  have hn := h.words.1
  have hm := h.ents.len
  obtain ⟨g1, g2, g3⟩ := good_parts hg
  have hn2 : n ≤ 2048 := by omega
  have hm2 : m ≤ 255 := by omega
  have hwn : IntKind.u64.wrap (n : Int) = n := by rw [IntKind.wrap_u64]; omega
  have hwm : IntKind.u64.wrap (m : Int) = m := by rw [IntKind.wrap_u64]; omega
  have BX := below_alloc (Below.refl w.heap.size w) (.cells #[.slice A n c, .slice B m d] 25 (0, 0))
  have XB := heap_alloc_new w (.cells #[.slice A n c, .slice B m d] 25 (0, 0))
  have R0 := Aside0.mk (h.then BX)
  have GC := Aside0.mk (hg ▸ good_call _ A n c B m d ws es (h.then (below_alloc (Below.refl w.heap.size w) (.cells #[.slice A n c, .slice B m d] 25 (0, 0)))))
  obtain ⟨W, hW⟩ : ∃ W, w.alloc (.cells #[.slice A n c, .slice B m d] 25 (0, 0)) = W := ⟨_, rfl⟩
  rw [hW] at BX XB R0 GC
  have HX := Aside0.mk XB
  have HBX := Aside0.mk BX
  have c0 := cell_of_row _ _ 0 _ _ _ XB
  have c1 := cell_of_row _ _ 1 _ _ _ XB
  simp only [List.getElem?_toArray, List.getElem?_cons_zero, List.getElem?_cons_succ] at c0 c1
  have HC := Aside0.mk (fun (W' : World) (b : Below W.heap.size W W') => (⟨(b.cell (p := ⟨w.heap.size, 0, none⟩) (Array.getElem?_eq_some_iff.1 XB).1).trans c0, (b.cell (p := ⟨w.heap.size, 1, none⟩) (Array.getElem?_eq_some_iff.1 XB).1).trans c1⟩ : W'.cell? ⟨w.heap.size, 0, none⟩ = some (.slice A n c) ∧ W'.cell? ⟨w.heap.size, 1, none⟩ = some (.slice B m d)))
  have GS := Aside0.mk (good_size hg)
  have G := Aside0.mk hg
  have WRA := Aside0.mk hwr
  clear h BX XB hg hwr g3
  have kc := fun (w : World) (C : Array Value) (n c : Nat) => Lib.run_convert_bytes_const (P := Tryd.prog) w 28 5 C n c Tryd.underlying28 Tryd.underlying5
  have kd : ∀ (w : World) (C : Array Value) (n c : Nat), (convert 28 28 (.slice (some ⟨w.heap.size, 0, none⟩) n c)).run Tryd.prog ((w.alloc (.cells C 5)).drew) = .ok (.slice (some ⟨w.heap.size, 0, none⟩) n c) ((w.alloc (.cells C 5 (C.size, C.size + 1))).drew) := fun w C n c => kc w.drew C n c
  go_enter Tryd.func10, Tryd.ntmps10
  go_wp2_with (first
    | (go_at_call 12; (with_reducible refine (GC.out).mono ?_); rintro e w1 ⟨rfl, hb⟩; have B1 := Aside0.mk hb; obtain ⟨d0, d1⟩ := HC.out _ hb; clear hb))
  refine start_ (n := 13) (S := (fun W' => W'.cell? ⟨w.heap.size, 0, none⟩ = some (.slice A n c) ∧ W'.cell? ⟨w.heap.size, 1, none⟩ = some (.slice B m d))) (ds := []) (bz 13 0) (by kernel_rfl) rfl rfl (HC.out _ (below_drew1 B1.out)) (fun hHeld => ?_)
  refine take_ (i := 2) (N := (some 14)) (v := ?_) (a' := ?_) (bz 13 4) rfl rfl (by kernel_rfl) (fun _ _ _ h => h) (Or.inl ⟨by rfl, ?_⟩) hHeld ?_ ?_
  rotate_left
  · rintro w' ⟨s0, s1⟩
    go_simp
    first | done | with_reducible rfl
  rotate_left
  · simp only [Act.put, List.setIfInBounds_toArray, List.set_cons_zero, List.set_cons_succ]
    rfl
  refine take_ (i := 3) (N := (some 15)) (v := ?_) (a' := ?_) (bz 13 12) rfl rfl (by kernel_rfl) (fun _ _ _ h => h) (Or.inl ⟨by rfl, ?_⟩) hHeld ?_ ?_
  rotate_left
  · rintro w' ⟨s0, s1⟩
    go_simp
    first | done | with_reducible rfl
  rotate_left
  · simp only [Act.put, List.setIfInBounds_toArray, List.set_cons_zero, List.set_cons_succ]
    rfl
  refine take_ (i := 4) (N := (some 16)) (v := ?_) (a' := ?_) (bz 13 28) rfl rfl (by kernel_rfl) (fun _ _ _ h => h) (Or.inl ⟨by rfl, ?_⟩) hHeld ?_ ?_
  rotate_left
  · rintro w' ⟨s0, s1⟩
    go_simp
    first | done | with_reducible rfl
  rotate_left
  · simp only [Act.put, List.setIfInBounds_toArray, List.set_cons_zero, List.set_cons_succ]
    rfl
  refine take_ (i := 5) (N := (some 17)) (v := ?_) (a' := ?_) (bz 13 60) rfl rfl (by kernel_rfl) (fun _ _ _ h => h) (Or.inl ⟨by rfl, ?_⟩) hHeld ?_ ?_
  rotate_left
  · rintro w' ⟨s0, s1⟩
    go_simp
    first | done | with_reducible rfl
  rotate_left
  · simp only [Act.put, List.setIfInBounds_toArray, List.set_cons_zero, List.set_cons_succ]
    rfl
  refine take_ (i := 7) (N := (some 19)) (v := ?_) (a' := ?_) (bz 13 188) rfl rfl (by kernel_rfl) (fun _ _ _ h => h) (Or.inl ⟨by rfl, ?_⟩) hHeld ?_ ?_
  rotate_left
  · rintro w' ⟨s0, s1⟩
    go_simp
    first | done | with_reducible rfl
  rotate_left
  · simp only [Act.put, List.setIfInBounds_toArray, List.set_cons_zero, List.set_cons_succ]
    rfl
  refine take_ (i := 8) (N := (some 20)) (v := ?_) (a' := ?_) (bz 13 444) rfl rfl (by kernel_rfl) (fun _ _ _ h => h) (Or.inl ⟨by rfl, ?_⟩) hHeld ?_ ?_
  rotate_left
  · rintro w' ⟨s0, s1⟩
    go_simp
    first | done | with_reducible rfl
  rotate_left
  · simp only [Act.put, List.setIfInBounds_toArray, List.set_cons_zero, List.set_cons_succ]
    rfl
  refine take_ (i := 9) (N := (some 21)) (v := ?_) (a' := ?_) (bz 13 956) rfl rfl (by kernel_rfl) (fun _ _ _ h => h) (Or.inl ⟨by rfl, ?_⟩) hHeld ?_ ?_
  rotate_left
  · rintro w' ⟨s0, s1⟩
    go_simp
    first | done | with_reducible rfl
  rotate_left
  · simp only [Act.put, List.setIfInBounds_toArray, List.set_cons_zero, List.set_cons_succ]
    rfl
  refine take_ (i := 10) (N := (some 22)) (v := ?_) (a' := ?_) (bz 13 1980) rfl rfl (by kernel_rfl) (fun _ _ _ h => h) (Or.inl ⟨by rfl, ?_⟩) hHeld ?_ ?_
  rotate_left
  · rintro w' ⟨s0, s1⟩
    go_simp
    first | done | with_reducible rfl
  rotate_left
  · simp only [Act.put, List.setIfInBounds_toArray, List.set_cons_zero, List.set_cons_succ]
    rfl
  refine one_ (i := 0) (N := (some 12)) (bz 13 1981) rfl rfl (by kernel_rfl) (by decide) (fun K hK => ?_)
  refine value_ (w1 := (w1.drew.alloc (.cells #[.int .u8 67, .int .u8 65, .int .u8 77, .int .u8 82] 5 (0, 0)))) (v := (.slice (some ⟨w1.heap.size, 0, none⟩) 4 4)) (by rfl) rfl (by go_simp; done) ?_
  refine hK.out _ _ (HC.out _ (below_alloc (below_drew1 B1.out) _)) (fun hHeld => ?_)
  clear hK K
  refine norm_ (a' := ?_) ?_ ?_
  rotate_left
  · show Act.put _ (some 12) _ = _
    simp only [Act.put, List.setIfInBounds_toArray, List.set_cons_zero, List.set_cons_succ]
    rfl
  refine one_ (i := 1) (N := (some 13)) (bz 13 1983) rfl rfl (by kernel_rfl) (by decide) (fun K hK => ?_)
  refine value_ (w1 := (w1.drew.alloc (.cells #[.int .u8 67, .int .u8 65, .int .u8 77, .int .u8 82] 5 (4, 5)))) (v := (.slice (some ⟨w1.heap.size, 0, none⟩) 4 4)) (by rfl) rfl (by go_simp; done) ?_
  refine hK.out _ _ (HC.out _ (below_alloc (below_drew1 B1.out) _)) (fun hHeld => ?_)
  clear hK K
  refine norm_ (a' := ?_) ?_ ?_
  rotate_left
  · show Act.put _ (some 13) _ = _
    simp only [Act.put, List.setIfInBounds_toArray, List.set_cons_zero, List.set_cons_succ]
    rfl
  refine one_ (i := 6) (N := (some 18)) (bz 13 2047) rfl rfl (by kernel_rfl) (by decide) (fun K hK => ?_)
  refine call_ 20 #[.slice (some ⟨w1.heap.size, 0, none⟩) 4 4, .int .u64 n, .int .i64 2] (by rfl) rfl (by go_simp; done) ?_
  refine (put_lit w1 n hn2).mono ?_
  rintro e w2 ⟨A2, m2, c2, rfl, hm2', ho2, hb2⟩
  have hbe2 : Below W.heap.size W w2 := below_step B1.out hb2
  refine ⟨_, rfl, ?_⟩
  refine hK.out _ _ (HC.out _ hbe2) (fun hHeld => ?_)
  clear hK K
  refine norm_ (a' := ?_) ?_ ?_
  rotate_left
  · show Act.put _ (some 18) _ = _
    simp only [Act.put, List.setIfInBounds_toArray, List.set_cons_zero, List.set_cons_succ]
    rfl
  refine one_ (i := 11) (N := (some 23)) (bz 13 4095) rfl rfl (by kernel_rfl) (by decide) (fun K hK => ?_)
  refine call_ 20 #[.slice A2 m2 c2, .int .u64 m, .int .i64 1] (by rfl) rfl (by go_simp; done) ?_
  refine (put_q w2 w1.heap.size A2 m2 c2 ([67, 65, 77, 82] ++ putS n 2) m 1 1 rfl (by omega) (by decide) hm2'.out ho2 (hb2.size) (by have := hm2'.out; simp only [List.length_append, putS_length, List.length_cons, List.length_nil] at this; omega)).mono ?_
  rintro e w3 ⟨A3, m3, c3, rfl, hm3, ho3, hb3, hk3⟩
  have hbe3 : Below W.heap.size W w3 := hbe2.trans (hb3.mono (by exact B1.out.size))
  refine ⟨_, rfl, ?_⟩
  refine hK.out _ _ (HC.out _ hbe3) (fun hHeld => ?_)
  clear hK K
  refine norm_ (a' := ?_) ?_ ?_
  rotate_left
  · show Act.put _ (some 23) _ = _
    simp only [Act.put, List.setIfInBounds_toArray, List.set_cons_zero, List.set_cons_succ]
    rfl
  refine pure_ (i := 12) (N := (some 4)) (v := ?_) (a' := ?_) (bz 13 8191) rfl rfl (by kernel_rfl) (fun _ _ _ h => h) (Or.inl ⟨by rfl, ?_⟩) ?_ ?_
  rotate_left
  · intro w'
    go_simp
    first | done | with_reducible rfl
  rotate_left
  · simp only [Act.put, List.setIfInBounds_toArray, List.set_cons_zero, List.set_cons_succ]
    rfl
  refine done_ (by kernel_rfl) ?_
  have HB3 := Aside0.mk hbe3
  have O3 : Aside0 (w3.ownsRow W.heap.size 5 1 (.slice A3 m3 c3) m3 (nums .u8 (hdrS n m))) := ⟨by rw [List.append_assoc] at ho3; exact own_lower ho3 B1.out.size⟩
  have hm3 : m3 = 7 := by have := hm3.out; simp only [List.length_append, putS_length, List.length_cons, List.length_nil] at this; omega
  clear hbe3 ho3 hb3 hk3 hbe2 hb2 ho2 hm2'
  obtain ⟨f0, f1⟩ := HC.out _ HB3.out
  subst hm3
  go_wp2_with fail
  go_loopw [4, 27] (fun b i wr => ∃ j : Nat, j ≤ n ∧ i = .int .i64 j ∧ Aside0 (Below W.heap.size W wr) ∧ Aside0 (wr.ownsRow W.heap.size 5 1 b (hdrS n m ++ wrdS (ws.take j)).length (nums .u8 (hdrS n m ++ wrdS (ws.take j))))) (fun _ i _ => n - (intOf i).toNat)
  case atStart => exact ⟨0, Nat.zero_le _, rfl, HB3, ⟨by rw [show wrdS (ws.take 0) = [] from rfl, List.append_nil, hdr_len]; exact O3.out⟩⟩
  case round =>
    obtain ⟨j, hj, rfl, B4, O4⟩ := hrel
    have HL4 : Aside0 ((hdrS n m ++ wrdS (ws.take j)).length = 7 + 8 * j) := ⟨by rw [List.length_append, hdr_len, wrd_len, List.length_take]; omega⟩
    have o4 := O4.out
    rw [HL4.out] at o4
    obtain ⟨A4, c4, rfl⟩ := own_val o4
    have O4 := Aside0.mk o4
    clear o4
    by_cases hjn : j < n
    · have HJ := Aside0.mk hjn
      have HXJ := Aside0.mk (wrd_next ws j (by omega))
      obtain ⟨ad, rfl, hcl⟩ := (R0.out.words.below B4.out).2.2 (by omega)
      have cj := hcl j hjn
      have hxb := WRA.out (ws.getD j 0) (by rw [List.getD_eq_getElem?_getD, List.getElem?_eq_getElem (by omega)]; exact List.getElem_mem _)
      obtain ⟨x, hx⟩ := Int.eq_ofNat_of_zero_le hxb.1
      rw [hx] at cj
      have HX2 := Aside0.mk hx
      have hx1 : x < 18446744073709551616 := by omega
      clear hcl hxb hx
      go_wp2_with (first
        | (go_at_call 20; (with_reducible refine (put_q _ W.heap.size A4 _ c4 (hdrS n m ++ wrdS (ws.take j)) x 8 8 rfl (by omega) (by decide) HL4.out O4.out B4.out.size (by omega)).mono ?_); rintro e w5 ⟨A5, m5, c5, rfl, hm5, ho5, hb5, hk5⟩; have O5 := Aside0.mk ho5; have B5 := Aside0.mk (B4.out.trans hb5); clear ho5 hb5 hk5))
      go_roundw
      case rel => exact ⟨j + 1, HJ.out, by go_num, B5, ⟨by rw [HXJ.out, HX2.out, ← List.append_assoc, hm5.out]; exact O5.out⟩⟩
      case measure => have := HJ.out; simp [intOf]; omega
    · obtain hjn : j = n := by omega
      have e6 : hdrS n m ++ wrdS (ws.take j) = hdrS n m ++ wrdS ws := by rw [List.take_of_length_le (by omega)]
      rw [e6] at O4 HL4
      clear e6
      subst hjn
      obtain ⟨f2, f3⟩ := HC.out _ B4.out
      go_wp2_with fail
      go_loopw [4, 38] (fun b i wr => ∃ k : Nat, k ≤ m ∧ i = .int .i64 k ∧ Aside0 (Below W.heap.size W wr) ∧ Aside0 (wr.ownsRow W.heap.size 5 1 b (hdrS j m ++ wrdS ws ++ entsS (es.take k)).length (nums .u8 (hdrS j m ++ wrdS ws ++ entsS (es.take k))))) (fun _ i _ => m - (intOf i).toNat)
      case atStart => exact ⟨0, Nat.zero_le _, rfl, B4, ⟨by rw [show entsS (es.take 0) = [] from rfl, List.append_nil, HL4.out]; exact O4.out⟩⟩
      case round =>
        obtain ⟨k, hk, rfl, B5, O5⟩ := hrel
        obtain ⟨L, hL⟩ : ∃ L, (hdrS j m ++ wrdS ws ++ entsS (es.take k)).length = L := ⟨_, rfl⟩
        have hL2 : L ≤ 7 + 8 * 2048 + 27 * 255 := by
          rw [← hL, List.length_append, HL4.out]
          have := ents_len (es.take k) (fun e he => GS.out e (List.mem_of_mem_take he))
          rw [List.length_take] at this
          omega
        have o5 := O5.out
        rw [hL] at o5
        obtain ⟨A5, c5, rfl⟩ := own_val o5
        have O5 := Aside0.mk o5
        have HL := Aside0.mk hL
        clear o5 hL
        by_cases hkm : k < m
        · have hk1 : (k : Int) < m := by omega
          have HK := Aside0.mk hkm
          have HXK := Aside0.mk (ent_next es k (by omega))
          obtain ⟨b, off, rfl, hbl, hcl⟩ := (R0.out.then B5.out).ents.cells (by omega)
          obtain ⟨e0, e1⟩ := hcl k hkm
          have ok := (good_parts G.out).2.2 k (by omega)
          rw [okE_eq] at ok
          have hsz := GS.out (es.getD k default) (by rw [List.getD_eq_getElem?_getD, List.getElem?_eq_getElem (by omega)]; exact List.getElem_mem _)
          have HE : Aside0 (es.getD k default = ((es.getD k default).1, (es.getD k default).2)) := ⟨rfl⟩
          obtain ⟨nm, hnm⟩ : ∃ nm, (es.getD k default).1 = nm := ⟨_, rfl⟩
          obtain ⟨at_, hat⟩ : ∃ at_, (es.getD k default).2 = at_ := ⟨_, rfl⟩
          rw [hnm, hat] at HE ok
          rw [hnm] at e0 hsz
          rw [hat] at e1
          simp only [Bool.and_eq_true, decide_eq_true_eq] at ok
          obtain ⟨x, hx⟩ := Int.eq_ofNat_of_zero_le ok.1.1.2
          have hx1 : x < 2048 := by have := ok.1.2; omega
          subst hx
          have hws : IntKind.u64.wrap (nm.size : Int) = nm.size := by rw [IntKind.wrap_u64]; omega
          have hwx : IntKind.u64.wrap (x : Int) = x := by rw [IntKind.wrap_u64]; omega
          clear hcl ok hnm hat
          have bl := below_alloc B5.out (.cells #[.string nm, .int .i64 x] 38 (0, 0))
          have hX2 := heap_alloc_new wr (.cells #[.string nm, .int .i64 x] 38 (0, 0))
          have o2 := own_then O5.out (below_alloc (Below.refl _ _) (.cells #[.string nm, .int .i64 x] 38 (0, 0)))
          obtain ⟨W2, hW2⟩ : ∃ W2, wr.alloc (.cells #[.string nm, .int .i64 x] 38 (0, 0)) = W2 := ⟨_, rfl⟩
          rw [hW2] at bl hX2 o2
          have g0 := cell_of_row _ _ 0 _ _ _ hX2
          have g1' := cell_of_row _ _ 1 _ _ _ hX2
          simp only [List.getElem?_toArray, List.getElem?_cons_zero, List.getElem?_cons_succ] at g0 g1'
          have BL := Aside0.mk bl
          have O6 := Aside0.mk o2
          have HC2 := Aside0.mk (fun (W' : World) (kn : KeepN W2 W') => (⟨(cell_of_row _ _ 0 _ _ _ (kn _ _ _ _ hX2 (by decide))), (cell_of_row _ _ 1 _ _ _ (kn _ _ _ _ hX2 (by decide)))⟩ : W'.cell? ⟨wr.heap.size, 0, none⟩ = some (.string nm) ∧ W'.cell? ⟨wr.heap.size, 1, none⟩ = some (.int .i64 x)))
          clear bl hX2 o2
          go_wp2_with fail
          refine start_ (n := 14) (S := (fun W' => W'.cell? ⟨wr.heap.size, 0, none⟩ = some (.string nm) ∧ W'.cell? ⟨wr.heap.size, 1, none⟩ = some (.int .i64 x))) (ds := []) (bz 14 0) (by kernel_rfl) rfl rfl (HC2.out _ (KeepN.drew (KeepN.refl _))) (fun hHeld => ?_)
          refine take_ (i := 0) (N := (some 42)) (v := ?_) (a' := ?_) (bz 14 1) rfl rfl (by kernel_rfl) (fun _ _ _ h => h) (Or.inl ⟨by rfl, ?_⟩) hHeld ?_ ?_
          rotate_left
          · rintro w' ⟨s0, s1⟩
            go_simp
            first | done | with_reducible rfl
          rotate_left
          · simp only [Act.put, List.setIfInBounds_toArray, List.set_cons_zero, List.set_cons_succ]
            rfl
          refine take_ (i := 1) (N := (some 43)) (v := ?_) (a' := ?_) (bz 14 3) rfl rfl (by kernel_rfl) (fun _ _ _ h => h) (Or.inl ⟨by rfl, ?_⟩) hHeld ?_ ?_
          rotate_left
          · rintro w' ⟨s0, s1⟩
            go_simp
            first | done | with_reducible rfl
          rotate_left
          · simp only [Act.put, List.setIfInBounds_toArray, List.set_cons_zero, List.set_cons_succ]
            rfl
          refine take_ (i := 2) (N := (some 44)) (v := ?_) (a' := ?_) (bz 14 7) rfl rfl (by kernel_rfl) (fun _ _ _ h => h) (Or.inl ⟨by rfl, ?_⟩) hHeld ?_ ?_
          rotate_left
          · rintro w' ⟨s0, s1⟩
            go_simp
            first | done | with_reducible rfl
          rotate_left
          · simp only [Act.put, List.setIfInBounds_toArray, List.set_cons_zero, List.set_cons_succ]
            rfl
          refine take_ (i := 3) (N := (some 45)) (v := ?_) (a' := ?_) (bz 14 15) rfl rfl (by kernel_rfl) (fun _ _ _ h => h) (Or.inl ⟨by rfl, ?_⟩) hHeld ?_ ?_
          rotate_left
          · rintro w' ⟨s0, s1⟩
            go_simp
            first | done | with_reducible rfl
          rotate_left
          · simp only [Act.put, List.setIfInBounds_toArray, List.set_cons_zero, List.set_cons_succ]
            rfl
          refine take_ (i := 4) (N := (some 46)) (v := ?_) (a' := ?_) (bz 14 31) rfl rfl (by kernel_rfl) (fun _ _ _ h => h) (Or.inl ⟨by rfl, ?_⟩) hHeld ?_ ?_
          rotate_left
          · rintro w' ⟨s0, s1⟩
            go_simp
            first | done | with_reducible rfl
          rotate_left
          · simp only [Act.put, List.setIfInBounds_toArray, List.set_cons_zero, List.set_cons_succ]
            rfl
          refine take_ (i := 6) (N := (some 48)) (v := ?_) (a' := ?_) (bz 14 95) rfl rfl (by kernel_rfl) (fun _ _ _ h => h) (Or.inl ⟨by rfl, ?_⟩) hHeld ?_ ?_
          rotate_left
          · rintro w' ⟨s0, s1⟩
            go_simp
            first | done | with_reducible rfl
          rotate_left
          · simp only [Act.put, List.setIfInBounds_toArray, List.set_cons_zero, List.set_cons_succ]
            rfl
          refine take_ (i := 7) (N := (some 49)) (v := ?_) (a' := ?_) (bz 14 223) rfl rfl (by kernel_rfl) (fun _ _ _ h => h) (Or.inl ⟨by rfl, ?_⟩) hHeld ?_ ?_
          rotate_left
          · rintro w' ⟨s0, s1⟩
            go_simp
            first | done | with_reducible rfl
          rotate_left
          · simp only [Act.put, List.setIfInBounds_toArray, List.set_cons_zero, List.set_cons_succ]
            rfl
          refine take_ (i := 9) (N := (some 51)) (v := ?_) (a' := ?_) (bz 14 735) rfl rfl (by kernel_rfl) (fun _ _ _ h => h) (Or.inl ⟨by rfl, ?_⟩) hHeld ?_ ?_
          rotate_left
          · rintro w' ⟨s0, s1⟩
            go_simp
            first | done | with_reducible rfl
          rotate_left
          · simp only [Act.put, List.setIfInBounds_toArray, List.set_cons_zero, List.set_cons_succ]
            rfl
          refine take_ (i := 10) (N := (some 52)) (v := ?_) (a' := ?_) (bz 14 1759) rfl rfl (by kernel_rfl) (fun _ _ _ h => h) (Or.inl ⟨by rfl, ?_⟩) hHeld ?_ ?_
          rotate_left
          · rintro w' ⟨s0, s1⟩
            go_simp
            first | done | with_reducible rfl
          rotate_left
          · simp only [Act.put, List.setIfInBounds_toArray, List.set_cons_zero, List.set_cons_succ]
            rfl
          refine take_ (i := 11) (N := (some 53)) (v := ?_) (a' := ?_) (bz 14 3807) rfl rfl (by kernel_rfl) (fun _ _ _ h => h) (Or.inl ⟨by rfl, ?_⟩) hHeld ?_ ?_
          rotate_left
          · rintro w' ⟨s0, s1⟩
            go_simp
            first | done | with_reducible rfl
          rotate_left
          · simp only [Act.put, List.setIfInBounds_toArray, List.set_cons_zero, List.set_cons_succ]
            rfl
          refine one_ (i := 5) (N := (some 47)) (bz 14 3839) rfl rfl (by kernel_rfl) (by decide) (fun K hK => ?_)
          refine call_ 20 #[.slice A5 L c5, .int .u64 nm.size, .int .i64 1] (by rfl) rfl (by go_simp; done) ?_
          refine (put_q W2.drew W.heap.size A5 L c5 _ nm.size 1 1 rfl (by omega) (by decide) HL.out (own_then O6.out (below_drew1 (Below.refl _ _))) BL.out.size (by omega)).mono ?_
          rintro e w7 ⟨A7, m7, c7, rfl, hm7, ho7, hb7, hk7⟩
          have hb7 : Below W.heap.size W w7 := (below_drew1 BL.out).trans hb7
          have hk7 : KeepN W2 w7 := (KeepN.drew (KeepN.refl W2)).trans hk7
          have hm7' : m7 = L + 1 := by have := hm7.out; rw [List.length_append, putS_length, HL.out] at this; omega
          obtain ⟨A8, m8, c8, w8, hr8, hm8, ho8, hb8, hk8⟩ := app_str w7 W.heap.size A7 m7 c7 _ nm hm7.out ho7 hb7.size (by omega)
          have hb8 : Below W.heap.size W w8 := hb7.trans hb8
          have hk8 : KeepN W2 w8 := hk7.trans hk8
          have hm8' : m8 = m7 + nm.size := by have := hm8.out; rw [List.length_append, nmB_length, hm7.out] at this; omega
          refine ⟨_, rfl, ?_⟩
          refine hK.out _ _ (HC2.out _ hk7) (fun hHeld => ?_)
          clear hK K
          refine norm_ (a' := ?_) ?_ ?_
          rotate_left
          · show Act.put _ (some 47) _ = _
            simp only [Act.put, List.setIfInBounds_toArray, List.set_cons_zero, List.set_cons_succ]
            rfl
          refine one_ (i := 8) (N := (some 50)) (bz 14 4095) rfl rfl (by kernel_rfl) (by decide) (fun K hK => ?_)
          refine step_app_str rfl (.tmp 47) (.tmp 49) 28 9 rfl _ _ _ _ (by rfl) (by rfl) hr8 ?_
          refine hK.out _ _ (HC2.out _ hk8) (fun hHeld => ?_)
          clear hK K
          refine norm_ (a' := ?_) ?_ ?_
          rotate_left
          · show Act.put _ (some 50) _ = _
            simp only [Act.put, List.setIfInBounds_toArray, List.set_cons_zero, List.set_cons_succ]
            rfl
          refine one_ (i := 12) (N := (some 54)) (bz 14 8191) rfl rfl (by kernel_rfl) (by decide) (fun K hK => ?_)
          refine call_ 20 #[.slice A8 m8 c8, .int .u64 x, .int .i64 2] (by rfl) rfl (by go_simp; done) ?_
          refine (put_q w8 W.heap.size A8 m8 c8 _ x 2 2 rfl (by omega) (by decide) hm8.out ho8 hb8.size (by omega)).mono ?_
          rintro e w9 ⟨A9, m9, c9, rfl, hm9, ho9, hb9, hk9⟩
          have hb9 : Below W.heap.size W w9 := hb8.trans hb9
          have hk9 : KeepN W2 w9 := hk8.trans hk9
          refine ⟨_, rfl, ?_⟩
          refine hK.out _ _ (HC2.out _ hk9) (fun hHeld => ?_)
          clear hK K
          refine norm_ (a' := ?_) ?_ ?_
          rotate_left
          · show Act.put _ (some 54) _ = _
            simp only [Act.put, List.setIfInBounds_toArray, List.set_cons_zero, List.set_cons_succ]
            rfl
          refine pure_ (i := 13) (N := (some 4)) (v := ?_) (a' := ?_) (bz 14 16383) rfl rfl (by kernel_rfl) (fun _ _ _ h => h) (Or.inl ⟨by rfl, ?_⟩) ?_ ?_
          rotate_left
          · intro w'
            go_simp
            first | done | with_reducible rfl
          rotate_left
          · simp only [Act.put, List.setIfInBounds_toArray, List.set_cons_zero, List.set_cons_succ]
            rfl
          refine done_ (by kernel_rfl) ?_
          have B9 := Aside0.mk hb9
          have O9 := Aside0.mk ho9
          clear hb9 ho9 hk9 hb8 hk8 hb7 hk7 ho7 ho8 hr8
          go_wp2_with fail
          go_roundw
          case rel => exact ⟨k + 1, HK.out, by go_num, B9, ⟨by
            have e : hdrS j m ++ wrdS ws ++ (entsS (es.take k) ++ entS (es.getD k default)) = ((hdrS j m ++ wrdS ws ++ entsS (es.take k)) ++ putS (nm.size : Int) 1 ++ nmB nm) ++ putS (x : Int) 2 := by
              rw [HE.out]
              unfold entS
              simp only [List.append_assoc]
            rw [HXK.out, e, hm9.out]
            exact O9.out⟩⟩
          case measure => have := HK.out; simp [intOf]; omega
        · obtain hkm : k = m := by omega
          have e6 : hdrS j m ++ wrdS ws ++ entsS (es.take k) = bodyS ws es := by rw [List.take_of_length_le (by omega), body_eq, hn, hm]
          have O6 := O5.out
          have HL6 := HL.out
          rw [e6] at O6 HL6
          have O6 := Aside0.mk O6
          have HL6 := Aside0.mk HL6
          have HD := Aside0.mk (own_reads' O6.out)
          have HBY : Aside0 (Bys (bodyS ws es)) := ⟨fun y hy => encS_bys ws es y (List.mem_append_left _ hy)⟩
          have sb := sumS_bnd (bodyS ws es)
          obtain ⟨S, hS⟩ := Int.eq_ofNat_of_zero_le sb.1
          have hS1 : S < 18446744073709551616 := by omega
          have SC := Aside0.mk (fun w' (r : ReadsInt w' .u8 A5 L (bodyS ws es)) => hS ▸ sum_call w' A5 L c5 (bodyS ws es) HBY.out r)
          have HS := Aside0.mk hS
          clear e6 sb hS
          subst hkm
          go_wp2_with (first
            | (go_at_call 21; (with_reducible refine (SC.out _ HD.out).mono ?_); rintro e w6 ⟨rfl, rfl⟩)
            | (go_at_call 20; (with_reducible refine (put_q _ W.heap.size A5 L c5 _ S 4 4 rfl (by omega) (by decide) HL6.out O6.out B5.out.size (by omega)).mono ?_); rintro e w7 ⟨A7, m7, c7, rfl, hm7, ho7, hb7, hk7⟩; have O7 := Aside0.mk ho7; have B7 := Aside0.mk (B5.out.trans hb7); clear ho7 hb7 hk7))
          go_ret2
          have e7 : encS ws es = bodyS ws es ++ putS (S : Int) 4 := by unfold encS; rw [HS.out]
          rw [e7]
          exact ⟨A7, m7, c7, rfl, hm7, own_lower O7.out HBX.out.size, below_step HBX.out B7.out⟩
end Go.Proofs.YtnljnccfpkpgfaaDoor.RomWalk
