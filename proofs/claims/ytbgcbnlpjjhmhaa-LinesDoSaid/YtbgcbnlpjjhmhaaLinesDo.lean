/- In every script each answer is the document's: the walk of LinesDo. -/
import Derived.Test.YtbgcbnlpjjhmhaaLinesT
import Derived.Test.YtbgcbnlpjjhmhaaRows5
namespace Go.Proofs.Ytbgcbnlpjjhmhaa.LinesWalk
open Go.RowKit Go.Proofs.Ytbgcbnlpjjhmhaa.Aid Go.Proofs.YtbgcbnlpjjhmhaaW.PrintWords Go.Proofs.YtbgcbnlpjjhmhaaW.PrintLast Go.Proofs.YtbgcbnlpjjhmhaaW.PrintMore Go.Proofs.Ytbgcbnlpjjhmhaa.HeapLaw
attribute [local go_sem] max2_int min2_int max_two min_two max_three min_three max_four min_four   -- for this text's walks alone
set_option linter.unusedVariables false
set_option linter.unusedSimpArgs false
structure Cal where
  add : Bool
  cy : Int
  lv : Int
  on : Bool
  c : Int
def Cal.none : Cal := ⟨false, 0, 0, false, 0⟩
def gC (cs : List Cal) (i : Nat) : Cal := cs.getD i .none
def CalRow (W : World) (A : Option Addr) (cs : List Cal) : Prop := 0 < cs.length → ∃ b off, A = some ⟨b, off, Option.none⟩ ∧ b < W.heap.size ∧ ∀ i, i < cs.length → W.cell? ⟨b, off + i * 5, Option.none⟩ = some (.bool (gC cs i).add) ∧ W.cell? ⟨b, off + i * 5 + 1, Option.none⟩ = some (.int .i64 (gC cs i).cy) ∧ W.cell? ⟨b, off + i * 5 + 2, Option.none⟩ = some (.int .i64 (gC cs i).lv) ∧ W.cell? ⟨b, off + i * 5 + 3, Option.none⟩ = some (.bool (gC cs i).on) ∧ W.cell? ⟨b, off + i * 5 + 4, Option.none⟩ = some (.int .i64 (gC cs i).c)
theorem calRow {w : World} {A : Option Addr} {len cap : Nat} (h : IsRow5 BoolV (IntV .i64) (IntV .i64) BoolV (IntV .i64) w A len cap) : ∃ cs : List Cal, cs.length = len ∧ CalRow w A cs := by
  by_cases hp : 0 < len
  · obtain ⟨x, rfl, hx⟩ := h.2 hp
    obtain ⟨b, off, spot⟩ := x
    obtain ⟨u0, u1, u2, u3, u4, _, _, _, _, _, c0, _, _, _, _⟩ := hx 0 hp
    have hspot : spot = Option.none := by simpa [Addr.add] using World.cell?_spot c0
    subst hspot
    have hb : b < w.heap.size := by
      have := World.block_lt_of_cell? w _ c0
      simpa [Addr.add] using this
    have ap : ∀ (o i : Nat), ((⟨b, o, Option.none⟩ : Addr).add i) = ⟨b, o + i, Option.none⟩ := by
      intro o i
      unfold Addr.add
      by_cases hi : i = 0 <;> simp [hi]
    obtain ⟨cs, hl, he⟩ := ex_list Cal.none (fun i (e : Cal) => w.cell? ⟨b, off + i * 5, Option.none⟩ = some (.bool e.add) ∧ w.cell? ⟨b, off + i * 5 + 1, Option.none⟩ = some (.int .i64 e.cy) ∧ w.cell? ⟨b, off + i * 5 + 2, Option.none⟩ = some (.int .i64 e.lv) ∧ w.cell? ⟨b, off + i * 5 + 3, Option.none⟩ = some (.bool e.on) ∧ w.cell? ⟨b, off + i * 5 + 4, Option.none⟩ = some (.int .i64 e.c)) len (fun i hi => by
      obtain ⟨v0, v1, v2, v3, v4, ⟨a, rfl⟩, ⟨b', rfl, _⟩, ⟨c, rfl, _⟩, ⟨d, rfl⟩, ⟨f, rfl, _⟩, d0, d1, d2, d3, d4⟩ := hx i hi
      rw [ap] at d0 d1 d2 d3 d4
      exact ⟨⟨a, b', c, d, f⟩, d0, d1, d2, d3, d4⟩)
    exact ⟨cs, hl, fun _ => ⟨b, off, rfl, hb, fun i hi => he i (by omega)⟩⟩
  · exact ⟨[], by simp; omega, fun h => absurd h (by simp)⟩
theorem CalRow.then {w w' : World} {A : Option Addr} {cs : List Cal} (h : CalRow w A cs) (k : Below w.heap.size w w') : CalRow w' A cs := fun hp => by
  obtain ⟨b, off, rfl, hb, hc⟩ := h hp
  refine ⟨b, off, rfl, Nat.lt_of_lt_of_le hb k.size, fun i hi => ?_⟩
  obtain ⟨d0, d1, d2, d3, d4⟩ := hc i hi
  exact ⟨(k.cell (p := ⟨b, off + i * 5, Option.none⟩) hb).trans d0, (k.cell (p := ⟨b, off + i * 5 + 1, Option.none⟩) hb).trans d1, (k.cell (p := ⟨b, off + i * 5 + 2, Option.none⟩) hb).trans d2, (k.cell (p := ⟨b, off + i * 5 + 3, Option.none⟩) hb).trans d3, (k.cell (p := ⟨b, off + i * 5 + 4, Option.none⟩) hb).trans d4⟩
/-- The state after a call. -/
def doS (s : St) (c : Cal) : St := if c.add then addS s c.cy c.lv c.on else atS s c.c
def doK (cs : List Cal) (k : Nat) : St := (cs.take k).foldl doS St.new
theorem doK_next (cs : List Cal) (k : Nat) (hk : k < cs.length) : doK cs (k + 1) = doS (doK cs k) (gC cs k) := by
  unfold doK gC
  rw [List.take_add_one, List.getElem?_eq_getElem hk, List.getD_eq_getElem?_getD, List.getElem?_eq_getElem hk, List.foldl_append]
  rfl
theorem doK_nums (cs : List Cal) : ∀ k, k ≤ cs.length → (doK cs k).nums ≤ k
  | 0, _ => by show (0 : Int) ≤ 0; omega
  | k + 1, h => by
    rw [doK_next cs k (by omega)]
    have ih := doK_nums cs k (by omega)
    unfold doS
    split
    · have := nums_add (doK cs k) (gC cs k).cy (gC cs k).lv (gC cs k).on; omega
    · show (doK cs k).nums ≤ _; omega
/-- The program's lines and the document's, in one state. -/
def Duo (w0 W : World) (g g' : Nat) (s : St) : Prop := Below w0.heap.size w0 W ∧ g ≠ g' ∧ ∃ v v', LAt W w0.heap.size g v s ∧ RAt W w0.heap.size g' v' s
theorem Duo.then {w0 W W' : World} {g g' : Nat} {s : St} (h : Duo w0 W g g' s) (b : Below W.heap.size W W') : Duo w0 W' g g' s := by
  obtain ⟨h0, hn, v, v', h1, h2⟩ := h
  exact ⟨below_step h0 b, hn, v, v', h1.then b, h2.then b⟩
theorem own_type {W : World} {base e s n : Nat} {v : Value} {xs : List Value} {k : Nat} (h : W.ownsRow base e s v n xs) (hk : v.ownBlock = some k) : ∃ cur c, W.heap[k]? = some (.cells cur e c) := by
  rcases h.2 with ⟨rfl, _⟩ | ⟨b, c, cur, rfl, _, hh, _⟩
  · simp [Value.ownBlock] at hk
  · simp only [Value.ownBlock, Option.some.injEq] at hk
    subst hk
    exact ⟨_, _, hh⟩
theorem ty_ne {W : World} {a b : Nat} {x y : Array Value} {t u : TypeId} {c d : Nat × Nat} (ha : W.heap[a]? = some (.cells x t c)) (hb : W.heap[b]? = some (.cells y u d)) (h : t ≠ u) : a ≠ b := by
  rintro rfl
  rw [ha] at hb
  simp only [Option.some.injEq, Obj.cells.injEq] at hb
  exact h hb.2.1
theorem RAt.frame {W W' : World} {base g : Nat} {v : Value} {s : St} (h : RAt W base g v s) {g1 : Nat} {o : Option Nat} (k : Kept2 W W' g1 o) (n1 : g ≠ g1) (n2 : some g ≠ o) (n3 : ∀ b, v.ownBlock = some b → b ≠ g1 ∧ some b ≠ o) : RAt W' base g v s := by
  refine ⟨(k.block g h.lt n1 n2).trans h.blk, h.ge, ?_, h.len⟩
  obtain ⟨o1, o2⟩ := h.row
  refine ⟨o1, ?_⟩
  rcases o2 with o2 | ⟨b, c, cur, rfl, hb, hh, r⟩
  · exact .inl o2
  · exact .inr ⟨b, c, cur, rfl, hb, (k.block b (Array.getElem?_eq_some_iff.1 hh).1 (n3 b rfl).1 (n3 b rfl).2).trans hh, r⟩
theorem LAt.frame {W W' : World} {base g : Nat} {v : Value} {s : St} (h : LAt W base g v s) {g1 : Nat} {o : Option Nat} (k : Kept2 W W' g1 o) (n1 : g ≠ g1) (n2 : some g ≠ o) (n3 : ∀ b, v.ownBlock = some b → b ≠ g1 ∧ some b ≠ o) : LAt W' base g v s := by
  obtain ⟨q, h, h2⟩ := h
  refine ⟨q, ⟨(k.block g h.lt n1 n2).trans h.blk, h.ge, ?_, h.len⟩, h2⟩
  obtain ⟨o1, o2⟩ := h.row
  refine ⟨o1, ?_⟩
  rcases o2 with o2 | ⟨b, c, cur, rfl, hb, hh, r⟩
  · exact .inl o2
  · exact .inr ⟨b, c, cur, rfl, hb, (k.block b (Array.getElem?_eq_some_iff.1 hh).1 (n3 b rfl).1 (n3 b rfl).2).trans hh, r⟩
theorem RPost.below {w0 w w' : World} {g : Nat} {v : Value} {s s' : St} (h : RAt w w0.heap.size g v s) (p : RPost w w' w0.heap.size g v s') (b : Below w0.heap.size w0 w) : Below w0.heap.size w0 w' := by
  obtain ⟨v', _, k, _⟩ := p
  refine k.below b h.ge (fun k hk => ?_)
  rcases h.row.2 with ⟨rfl, _⟩ | ⟨b', c, cur, rfl, hb, _⟩
  · simp [Value.ownBlock] at hk
  · simp only [Value.ownBlock, Option.some.injEq] at hk
    subst hk; exact hb
/-- Nothing is shared. -/
theorem apart4 {W : World} {base base' g g' : Nat} {v v' : Value} {s s' : St} (h : LAt W base g v s) (h' : RAt W base' g' v' s') :
    g ≠ g' ∧ some g' ≠ v.ownBlock ∧ some g ≠ v'.ownBlock ∧ ∀ b b', v.ownBlock = some b → v'.ownBlock = some b' → b ≠ b' ∧ b ≠ g' ∧ b' ≠ g := by
  obtain ⟨q, h, _⟩ := h
  refine ⟨ty_ne h.blk h'.blk (by decide), fun e => ?_, fun e => ?_, fun b b' e e' => ?_⟩
  · obtain ⟨_, _, hh⟩ := own_type h.row e.symm
    exact ty_ne h'.blk hh (by decide) rfl
  · obtain ⟨_, _, hh⟩ := own_type h'.row e.symm
    exact ty_ne h.blk hh (by decide) rfl
  · obtain ⟨_, _, hh⟩ := own_type h.row e
    obtain ⟨_, _, hh'⟩ := own_type h'.row e'
    exact ⟨ty_ne hh hh' (by decide), ty_ne hh h'.blk (by decide), ty_ne hh' h.blk (by decide)⟩
theorem duo_l {w0 w w' : World} {g g' : Nat} {s s' : St} {v v' : Value} (hb : Below w0.heap.size w0 w) (h1 : LAt w w0.heap.size g v s) (h2 : RAt w w0.heap.size g' v' s) (p : LPost w w' w0.heap.size g v s') :
    Below w0.heap.size w0 w' ∧ (∃ v1, LAt w' w0.heap.size g v1 s') ∧ RAt w' w0.heap.size g' v' s := by
  have b := p.below h1 hb
  obtain ⟨n1, n2, n3, n4⟩ := apart4 h1 h2
  obtain ⟨v1, l1, k1, nr⟩ := p
  refine ⟨b, ⟨v1, l1⟩, h2.frame k1 n1.symm n2 fun b hb => ⟨fun e => n3 (e ▸ hb.symm), fun e => (n4 b b e.symm hb).1 rfl⟩⟩
theorem duo_r {w0 w w' : World} {g g' : Nat} {s s' : St} {v v' : Value} (hb : Below w0.heap.size w0 w) (h1 : LAt w w0.heap.size g v s') (h2 : RAt w w0.heap.size g' v' s) (p : RPost w w' w0.heap.size g' v' s') :
    Duo w0 w' g g' s' := by
  have b := p.below h2 hb
  obtain ⟨n1, n2, n3, n4⟩ := apart4 h1 h2
  obtain ⟨v1, l1, k1, nr⟩ := p
  exact ⟨b, n1, v, v1, h1.frame k1 n1 n3 (fun b hb => ⟨fun e => n2 (e ▸ hb.symm), fun e => (n4 b b hb e.symm).1 rfl⟩), l1⟩
theorem Duo.good {w0 w : World} {g g' : Nat} {s : St} (h : Duo w0 w g g' s) : GoodS s := by
  obtain ⟨_, _, v, v', h1, _⟩ := h
  exact h1.good
/-- A call's block stays. -/
def KeepC (W W' : World) : Prop := ∀ (m : Nat) (x : Array Value) (c : Nat × Nat), W.heap[m]? = some (.cells x 49 c) → W'.heap[m]? = some (.cells x 49 c)
theorem LAt.keepC {W W' : World} {base g : Nat} {v : Value} {s s' : St} (h : LAt W base g v s) (p : LPost W W' base g v s') : KeepC W W' := fun m x c hm => by
  obtain ⟨q, h, _⟩ := h
  obtain ⟨_, _, k, _⟩ := p
  refine (k.block m (Array.getElem?_eq_some_iff.1 hm).1 (ty_ne hm h.blk (by decide)) fun e => ?_).trans hm
  obtain ⟨_, _, hh⟩ := own_type h.row e.symm
  exact ty_ne hm hh (by decide) rfl
theorem RAt.keepC {W W' : World} {base g : Nat} {v : Value} {s s' : St} (h : RAt W base g v s) (p : RPost W W' base g v s') : KeepC W W' := fun m x c hm => by
  obtain ⟨_, _, k, _⟩ := p
  refine (k.block m (Array.getElem?_eq_some_iff.1 hm).1 (ty_ne hm h.blk (by decide)) fun e => ?_).trans hm
  obtain ⟨_, _, hh⟩ := own_type h.row e.symm
  exact ty_ne hm hh (by decide) rfl
def HasC (W : World) (m : Nat) (y0 : Bool) (y1 y2 : Int) (y3 : Bool) (y4 : Int) : Prop := W.heap[m]? = some (.cells #[.bool y0, .int .i64 y1, .int .i64 y2, .bool y3, .int .i64 y4] 49 (0, 0))
theorem HasC.cells {W : World} {m : Nat} {y0 : Bool} {y1 y2 : Int} {y3 : Bool} {y4 : Int} (h : HasC W m y0 y1 y2 y3 y4) : W.cell? ⟨m, 1, none⟩ = some (.int .i64 y1) ∧ W.cell? ⟨m, 2, none⟩ = some (.int .i64 y2) ∧ W.cell? ⟨m, 3, none⟩ = some (.bool y3) ∧ W.cell? ⟨m, 4, none⟩ = some (.int .i64 y4) :=
  ⟨cell_of_row W m 1 _ _ _ h, cell_of_row W m 2 _ _ _ h, cell_of_row W m 3 _ _ _ h, cell_of_row W m 4 _ _ _ h⟩
theorem HasC.then {W W' : World} {m : Nat} {y0 : Bool} {y1 y2 : Int} {y3 : Bool} {y4 : Int} (h : HasC W m y0 y1 y2 y3 y4) (k : Below W.heap.size W W') : HasC W' m y0 y1 y2 y3 y4 := (k.block m (Array.getElem?_eq_some_iff.1 h).1).trans h
/-- Half way: the program's lines have gone on. -/
def Half (w0 W : World) (g g' : Nat) (s' s : St) : Prop := Below w0.heap.size w0 W ∧ (∃ v, LAt W w0.heap.size g v s') ∧ ∃ v', RAt W w0.heap.size g' v' s
theorem Half.then {w0 W W' : World} {g g' : Nat} {s s' : St} (h : Half w0 W g g' s' s) (b : Below W.heap.size W W') : Half w0 W' g g' s' s := by
  obtain ⟨h0, ⟨v, h1⟩, v', h2⟩ := h
  exact ⟨below_step h0 b, ⟨v, h1.then b⟩, v', h2.then b⟩
theorem duo_add (w0 w : World) (g g' : Nat) (s : St) (cy lv : Int) (on : Bool) (h : Duo w0 w g g' s) (hn : s.nums < 1000000) :
    Calls Try.prog 23 #[.pointer (some ⟨g, 0, none⟩), .agg #[.int .i64 cy, .int .i64 lv, .bool on]] w fun e w' => e = .returned (.int .i64 (addE s cy lv)) ∧ Half w0 w' g g' (addS s cy lv on) s ∧ KeepC w w' := by
  obtain ⟨h0, _, v, v', h1, h2⟩ := h
  refine (ladd_call w _ g v s cy lv on h1 hn).mono fun e w' ⟨he, hp⟩ => ⟨he, ?_⟩
  obtain ⟨a, b, c⟩ := duo_l h0 h1 h2 hp
  exact ⟨⟨a, b, v', c⟩, h1.keepC hp⟩
theorem half_add (w0 w : World) (g g' : Nat) (s : St) (cy lv : Int) (on : Bool) (h : Half w0 w g g' (addS s cy lv on) s) :
    Calls Try.prog 24 #[.pointer (some ⟨g', 0, none⟩), .agg #[.int .i64 cy, .int .i64 lv, .bool on]] w fun e w' => e = .returned (.int .i64 (addE s cy lv)) ∧ Duo w0 w' g g' (addS s cy lv on) ∧ KeepC w w' := by
  obtain ⟨h0, ⟨v, h1⟩, v', h2⟩ := h
  exact (radd_call w _ g' v' s cy lv on h2).mono fun e w' ⟨he, hp⟩ => ⟨he, duo_r h0 h1 h2 hp, h2.keepC hp⟩
theorem duo_at (w0 w : World) (g g' : Nat) (s : St) (c : Int) (h : Duo w0 w g g' s) :
    Calls Try.prog 25 #[.pointer (some ⟨g, 0, none⟩), .int .i64 c] w fun e w' => e = .returned (.int .u32 (onN (atS s c).on 32 : Nat)) ∧ Half w0 w' g g' (atS s c) s ∧ KeepC w w' := by
  obtain ⟨h0, _, v, v', h1, h2⟩ := h
  refine (lat_call w _ g v s c h1).mono fun e w' ⟨he, hp⟩ => ⟨he, ?_⟩
  obtain ⟨a, b, c⟩ := duo_l h0 h1 h2 hp
  exact ⟨⟨a, b, v', c⟩, h1.keepC hp⟩
theorem half_at (w0 w : World) (g g' : Nat) (s : St) (c : Int) (hg : GoodS s) (h : Half w0 w g g' (atS s c) s) :
    Calls Try.prog 26 #[.pointer (some ⟨g', 0, none⟩), .int .i64 c] w fun e w' => e = .returned (.int .u32 (onN (atS s c).on 32 : Nat)) ∧ Duo w0 w' g g' (atS s c) ∧ KeepC w w' := by
  obtain ⟨h0, ⟨v, h1⟩, v', h2⟩ := h
  exact (rat22_call w _ g' v' s c h2 hg.lv).mono fun e w' ⟨he, hp⟩ => ⟨he, duo_r h0 h1 h2 hp, h2.keepC hp⟩
theorem duo_waits (w0 w : World) (g g' : Nat) (s : St) (h : Duo w0 w g g' s) :
    Calls Try.prog 27 #[.pointer (some ⟨g, 0, none⟩)] w fun e w' => e = .returned (.int .i64 s.xs.length) ∧ w = w' := by
  obtain ⟨h0, _, v, v', h1, h2⟩ := h
  exact waits_call w _ g v s h1
/-- The document's list. -/
theorem Duo.list {w0 w : World} {g g' : Nat} {s : St} (h : Duo w0 w g g' s) : ∃ A c, w.cell? ⟨g', 0, none⟩ = some (.slice A s.xs.length c) := by
  obtain ⟨h0, _, v, v', h1, h2⟩ := h
  obtain ⟨A, c, rfl⟩ := h2.own
  exact ⟨A, c, h2.f0⟩
theorem blk_new0 (W : World) (x : Obj) : (W.alloc x).heap[W.heap.size]? = some x := blk_new W x
theorem duo_new (w0 w1 : World) (g : Nat) (h : LAt w1 w0.heap.size g (.slice none 0 0) St.new) (b : Below w0.heap.size w0 w1) :
    Duo w0 (w1.alloc (.cells (.slice none 0 0 :: .int .i64 0 :: onL (fun _ => false)).toArray 45 (0, 0))) g w1.heap.size St.new := by
  have B := below_alloc (Below.refl w1.heap.size w1) (.cells (.slice none 0 0 :: .int .i64 0 :: onL (fun _ => false)).toArray 45 (0, 0))
  have H2 : RAt (w1.alloc (.cells (.slice none 0 0 :: .int .i64 0 :: onL (fun _ => false)).toArray 45 (0, 0))) w0.heap.size w1.heap.size (.slice none 0 0) St.new :=
    ⟨blk_new _ _, b.size, World.ownsRow_nil _ _ _ _, Nat.zero_le _⟩
  have H1 := h.then B
  exact ⟨below_step b B, (apart4 H1 H2).1, _, _, H1, H2⟩
theorem do_long (A0 : Option Addr) (n c0 : Nat) (w : World) (h : 200 < n) :
    Calls Try.prog 4 #[.slice A0 n c0] w fun e w' => e = .returned (.bool true) ∧ Below w.heap.size w w' := by
  have A := Aside0.mk alive_call
  go_enter Try.func4, Try.ntmps4
  go_wp2_with (first | (go_at_call 21; (with_reducible refine (A.out _).mono ?_); rintro e w1 ⟨rfl, hb⟩))
  go_ret
  exact ⟨rfl, hb⟩
set_option maxRecDepth 100000 in
set_option maxHeartbeats 8000000 in
theorem do_ok (A0 : Option Addr) (n c0 : Nat) (w : World) (hn : n ≤ 200) (cs : List Cal) (he : cs.length = n) (r0 : CalRow w A0 cs) :
    Calls Try.prog 4 #[.slice A0 n c0] w fun e w' => e = .returned (.bool true) ∧ Below w.heap.size w w' := by
  have A := Aside0.mk alive_call
  have R0 := Aside0.mk r0
  have HE := Aside0.mk he
  clear r0 he
  go_enter Try.func4, Try.ntmps4
  go_wp2_with (first
    | (go_at_call 21; (with_reducible refine (A.out w).mono ?_); rintro e w0 ⟨rfl, hb⟩; have B0 := Aside0.mk hb; clear hb)
    | (go_at_call 22; (with_reducible refine (lnew_call w0).mono ?_); rintro e w1 ⟨g, rfl, hr, hb⟩; have L1 := Aside0.mk hr; have B1 := Aside0.mk hb; clear hr hb))
  have E0 := Aside0.mk (R0.out.then B0.out)
  clear R0
  go_wp2_with fail
  go_loopw [18] (fun iv wr => ∃ k : Nat, k ≤ n ∧ iv = .int .i64 k ∧ Aside0 (Duo w0 wr g w1.heap.size (doK cs k))) (fun iv _ => n - (intOf iv).toNat)
  case atStart => exact ⟨0, Nat.zero_le _, rfl, ⟨(duo_new w0 w1 g L1.out B1.out).then (by first | exact Below.refl _ _ | exact pw_below_drewN (Below.refl _ _) _)⟩⟩
  case round =>
    obtain ⟨k, hk, rfl, T⟩ := hrel
    clear L1 B1
    generalize w1.heap.size = g' at *
    by_cases hkn : k = n
    · subst hkn
      go_wp2
      go_ret
      exact ⟨rfl, below_step B0.out T.out.1⟩
    · have hk' : k < n := by omega
      obtain ⟨b, off, rfl, hbl, hc⟩ := E0.out (by have := HE.out; omega)
      obtain ⟨z0, z1, z2, z3, z4⟩ := hc k (by have := HE.out; omega)
      have NX := doK_next cs k (by have := HE.out; omega)
      have NN := Aside0.mk (Int.lt_of_le_of_lt (doK_nums cs k (by have := HE.out; omega)) (by omega : (k : Int) < 1000000))
      have d0 := (T.out.1.cell (p := ⟨b, off + k * 5, none⟩) hbl).trans z0
      have d1 := (T.out.1.cell (p := ⟨b, off + k * 5 + 1, none⟩) hbl).trans z1
      have d2 := (T.out.1.cell (p := ⟨b, off + k * 5 + 2, none⟩) hbl).trans z2
      have d3 := (T.out.1.cell (p := ⟨b, off + k * 5 + 3, none⟩) hbl).trans z3
      have d4 := (T.out.1.cell (p := ⟨b, off + k * 5 + 4, none⟩) hbl).trans z4
      clear hc z0 z1 z2 z3 z4
      have HK := Aside0.mk hk'
      have GS := Aside0.mk T.out.good
      obtain ⟨wa, rfl⟩ : ∃ wa : World, wa = wr := ⟨_, rfl⟩
      have TA := Aside0.mk (fun o => T.out.then (below_alloc (Below.refl wa.heap.size wa) o))
      unfold doS at NX
      generalize hs : doK cs k = s at *
      generalize (gC cs k).add = y0 at *
      generalize (gC cs k).cy = y1 at *
      generalize (gC cs k).lv = y2 at *
      generalize (gC cs k).on = y3 at *
      generalize (gC cs k).c = y4 at *
      clear T hs
      cases y0 with
      | true =>
        rw [if_pos rfl] at NX
        have NX := Aside0.mk NX
        go_wp2_with fail
        have C1 := Aside0.mk (show HasC (wa.alloc (.cells #[.bool true, .int .i64 y1, .int .i64 y2, .bool y3, .int .i64 y4] 49 (0, 0))) wa.heap.size true y1 y2 y3 y4 from blk_new _ _)
        have T1 := Aside0.mk (TA.out (.cells #[.bool true, .int .i64 y1, .int .i64 y2, .bool y3, .int .i64 y4] 49 (0, 0)))
        clear TA d0 d1 d2 d3 d4
        generalize (wa.alloc (.cells #[.bool true, .int .i64 y1, .int .i64 y2, .bool y3, .int .i64 y4] 49 (0, 0))) = wb at *
        generalize wa.heap.size = m at *
        obtain ⟨f7, f8, f9, f10⟩ := C1.out.cells
        go_region_with (first
          | (go_at_call 23; (with_reducible refine (duo_add w0 _ g g' s y1 y2 y3 (T1.out.then ((Below.refl _ _).drew)) NN.out).mono ?_); rintro e w2 ⟨rfl, h2, kc⟩; have C2 := Aside0.mk (show HasC w2 m true y1 y2 y3 y4 from kc _ _ _ (C1.out.then ((Below.refl _ _).drew))); have H2 := Aside0.mk h2; obtain ⟨f1, f2, f3, _⟩ := C2.out.cells; clear h2 kc)
          | (go_at_call 24; (with_reducible refine (half_add w0 _ g g' s y1 y2 y3 H2.out).mono ?_); rintro e w3 ⟨rfl, h3, kc⟩; have C3 := Aside0.mk (show HasC w3 m true y1 y2 y3 y4 from kc _ _ _ C2.out); have H3 := Aside0.mk h3; obtain ⟨f4, f5, f6, _⟩ := C3.out.cells; clear h3 kc)
          | (go_at_call 23; (with_reducible refine (add_nil _ y1 y2 y3).mono ?_); rintro e w4 ⟨rfl, hb⟩; have H4 := Aside0.mk (H3.out.then hb); clear hb))
        all_goals (
          obtain ⟨A9, c9, f9⟩ := H4.out.list
          go_wp2_with fail
          go_region_with (first
            | (go_at_call 27; (with_reducible refine (duo_waits w0 _ g g' _ (H4.out.then ((Below.refl _ _).drew))).mono ?_); rintro e w5 ⟨rfl, rfl⟩)
            | (go_at_call 27; (with_reducible refine (waits_nil _).mono ?_); rintro e w6 ⟨rfl, rfl⟩)))
        all_goals (
          go_wp2
          go_roundw
          case rel => exact ⟨k + 1, HK.out, by go_num, ⟨by rw [NX.out]; first | exact H4.out | exact H4.out.then ((Below.refl _ _).drew) | exact H4.out.then (pw_below_drewN (Below.refl _ _) _)⟩⟩
          case measure => have := HK.out; simp [intOf]; omega)
      | false =>
        rw [if_neg (by decide)] at NX
        have NX := Aside0.mk NX
        go_wp2_with fail
        have C1 := Aside0.mk (show HasC (wa.alloc (.cells #[.bool false, .int .i64 y1, .int .i64 y2, .bool y3, .int .i64 y4] 49 (0, 0))) wa.heap.size false y1 y2 y3 y4 from blk_new _ _)
        have T1 := Aside0.mk (TA.out (.cells #[.bool false, .int .i64 y1, .int .i64 y2, .bool y3, .int .i64 y4] 49 (0, 0)))
        clear TA d0 d1 d2 d3 d4
        generalize (wa.alloc (.cells #[.bool false, .int .i64 y1, .int .i64 y2, .bool y3, .int .i64 y4] 49 (0, 0))) = wb at *
        generalize wa.heap.size = m at *
        obtain ⟨f7, f8, f9, f10⟩ := C1.out.cells
        go_region_with (first
          | (go_at_call 25; (with_reducible refine (duo_at w0 _ g g' s y4 (T1.out.then ((Below.refl _ _).drew))).mono ?_); rintro e w2 ⟨rfl, h2, kc⟩; have C2 := Aside0.mk (show HasC w2 m false y1 y2 y3 y4 from kc _ _ _ (C1.out.then ((Below.refl _ _).drew))); have H2 := Aside0.mk h2; obtain ⟨_, _, _, f1⟩ := C2.out.cells; clear h2 kc)
          | (go_at_call 26; (with_reducible refine (half_at w0 _ g g' s y4 GS.out H2.out).mono ?_); rintro e w3 ⟨rfl, h3, kc⟩; have C3 := Aside0.mk (show HasC w3 m false y1 y2 y3 y4 from kc _ _ _ C2.out); have H3 := Aside0.mk h3; obtain ⟨_, _, _, f4⟩ := C3.out.cells; clear h3 kc)
          | (go_at_call 25; (with_reducible refine (at_nil _ y4).mono ?_); rintro e w4 ⟨rfl, rfl⟩; have H4 := H3))
        all_goals (
          obtain ⟨A9, c9, f9⟩ := H4.out.list
          go_wp2_with fail
          go_region_with (first
            | (go_at_call 27; (with_reducible refine (duo_waits w0 _ g g' _ (H4.out.then ((Below.refl _ _).drew))).mono ?_); rintro e w5 ⟨rfl, rfl⟩)
            | (go_at_call 27; (with_reducible refine (waits_nil _).mono ?_); rintro e w6 ⟨rfl, rfl⟩)))
        all_goals (
          go_wp2
          go_roundw
          case rel => exact ⟨k + 1, HK.out, by go_num, ⟨by rw [NX.out]; first | exact H4.out | exact H4.out.then ((Below.refl _ _).drew) | exact H4.out.then (pw_below_drewN (Below.refl _ _) _)⟩⟩
          case measure => have := HK.out; simp [intOf]; omega)
theorem LinesDo_walk (a0 : Option Addr) (len0 cap0 : Nat) (w : World) (w0 : IsRow5 BoolV (IntV .i64) (IntV .i64) BoolV (IntV .i64) w a0 len0 cap0) :
    Calls Try.prog 4 #[.slice a0 len0 cap0] w fun e w' => e = .returned (.bool true) ∧ Below w.heap.size w w' := by
  by_cases h : 200 < len0
  · exact do_long a0 len0 cap0 w h
  · obtain ⟨cs, he, r0⟩ := calRow w0
    exact do_ok a0 len0 cap0 w (by omega) cs he r0
end Go.Proofs.Ytbgcbnlpjjhmhaa.LinesWalk
