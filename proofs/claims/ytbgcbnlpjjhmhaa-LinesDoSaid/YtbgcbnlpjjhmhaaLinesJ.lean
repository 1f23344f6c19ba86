/- The lines' laws of layer 22: alive; several lines at once; changes that come in. -/
import Derived.Test.YtbgcbnlpjjhmhaaLinesI
import Derived.Test.YtbgcbnlpjjhmhaaRows3
namespace Go.Proofs.Ytbgcbnlpjjhmhaa.LinesWalk
open Go.RowKit Go.Proofs.Ytbgcbnlpjjhmhaa.Aid Go.Proofs.YtbgcbnlpjjhmhaaW.PrintWords Go.Proofs.YtbgcbnlpjjhmhaaW.PrintLast Go.Proofs.YtbgcbnlpjjhmhaaW.PrintMore Go.Proofs.Ytbgcbnlpjjhmhaa.HeapLaw
attribute [local go_sem] max2_int min2_int max_two min_two max_three min_three max_four min_four   -- for this text's walks alone
set_option linter.unusedVariables false
set_option linter.unusedSimpArgs false
theorem LPost.below {w0 w w' : World} {g : Nat} {v : Value} {s s' : St} (h : LAt w w0.heap.size g v s) (p : LPost w w' w0.heap.size g v s') (b : Below w0.heap.size w0 w) : Below w0.heap.size w0 w' := by
  obtain ⟨v', _, k, _⟩ := p
  exact k.below b h.ge (fun k hk => (h.row k hk).1)
theorem alive_call (w : World) : Calls Try.prog 21 #[] w fun e w' => e = .returned (.bool true) ∧ Below w.heap.size w w' := by
  have s1 : addE St.new 5 3 = 0 := by decide
  have s2 : (onN (atS (addS St.new 5 3 true) 4).on 32 : Nat) = 0 := by decide +kernel
  have s3 : (onN (atS (atS (addS St.new 5 3 true) 4) 5).on 32 : Nat) = 8 := by decide +kernel
  have s4 : (atS (atS (addS St.new 5 3 true) 4) 5).xs.length = 0 := by decide +kernel
  have S1 := Aside0.mk s1
  have S2 := Aside0.mk s2
  have S3 := Aside0.mk s3
  have S4 := Aside0.mk s4
  clear s1 s2 s3 s4
  go_enter Try.func21, Try.ntmps21
  go_wp2_with (first
    | (go_at_call 22; (with_reducible refine (lnew_call _).mono ?_); rintro e w1 ⟨g, rfl, hr, hb⟩; have R1 := Aside0.mk hr; have B1 := Aside0.mk hb; clear hr hb)
    | (go_at_call 23; (with_reducible refine (ladd_call _ _ _ _ _ 5 3 true R1.out (by decide)).mono ?_); rintro e w2 ⟨rfl, hp⟩; have B2 := Aside0.mk (hp.below R1.out B1.out); obtain ⟨v2, hr, _⟩ := hp; have R2 := Aside0.mk hr; clear hr; rw [S1.out])
    | (go_at_call 25; (with_reducible refine (lat_call _ _ _ _ _ 4 R2.out).mono ?_); rintro e w3 ⟨rfl, hp⟩; have B3 := Aside0.mk (hp.below R2.out B2.out); obtain ⟨v3, hr, _⟩ := hp; have R3 := Aside0.mk hr; clear hr; rw [S2.out])
    | (go_at_call 25; (with_reducible refine (lat_call _ _ _ _ _ 5 R3.out).mono ?_); rintro e w4 ⟨rfl, hp⟩; have B4 := Aside0.mk (hp.below R3.out B3.out); obtain ⟨v4, hr, _⟩ := hp; have R4 := Aside0.mk hr; clear hr; rw [S3.out])
    | (go_at_call 27; (with_reducible refine (waits_call _ _ _ _ _ R4.out).mono ?_); rintro e w5 ⟨rfl, rfl⟩; rw [S4.out]))
  go_ret
  exact ⟨rfl, B4.out⟩
/-- Other lines stay. -/
theorem LAt.other {w w' : World} {base base' g g' : Nat} {v v' : Value} {s s' : St} (h' : LAt w base' g' v' s') (h : LAt w base g v s) (k : Kept2 w w' g v.ownBlock) (hne : g' ≠ g) (hr : NeRow v v') : LAt w' base' g' v' s' := by
  obtain ⟨q', h1', h2'⟩ := h'
  obtain ⟨q, h1, h2⟩ := h
  have hcross : ∀ b, v.ownBlock = some b → g' ≠ b := by
    rintro b hb rfl
    rcases h1.row.2 with ⟨rfl, _⟩ | ⟨b', c, cur, rfl, _, hh, _⟩
    · simp [Value.ownBlock] at hb
    · simp only [Value.ownBlock, Option.some.injEq] at hb
      subst hb
      have := h1'.blk
      rw [this] at hh
      simp at hh
  refine ⟨q', ⟨(k.block g' h1'.lt hne (fun e => hcross g' e.symm rfl)).trans h1'.blk, h1'.ge, ?_, h1'.len⟩, h2'⟩
  obtain ⟨o1, o2⟩ := h1'.row
  refine ⟨o1, ?_⟩
  rcases o2 with o2 | ⟨b, c, cur, rfl, hb, hh, r⟩
  · exact .inl o2
  · refine .inr ⟨b, c, cur, rfl, hb, ?_, r⟩
    have hbg : b ≠ g := by
      rintro rfl
      have := h1.blk
      rw [this] at hh
      simp at hh
    exact (k.block b (Array.getElem?_eq_some_iff.1 hh).1 hbg (fun e => hr b e.symm rfl)).trans hh
theorem ne_new {w : World} {base : Nat} {g : Nat} {v v1 v' : Value} {s : St} (h : NeRow v v') (n : NewRow w v v1) (h' : LAt w base g v' s) : NeRow v1 v' := by
  intro k hk hk'
  rcases n with n | ⟨b, n, hb⟩
  · exact h k (n ▸ hk) hk'
  · have := (h'.row k hk').2
    rw [n] at hk
    simp only [Option.some.injEq] at hk
    omega
/-- Three lines. -/
def Tri (w wr : World) (g1 g2 g3 : Nat) (s1 s2 s3 : St) : Prop :=
  Below w.heap.size w wr ∧ g1 ≠ g2 ∧ g1 ≠ g3 ∧ g2 ≠ g3 ∧ ∃ v1 v2 v3, LAt wr w.heap.size g1 v1 s1 ∧ LAt wr w.heap.size g2 v2 s2 ∧ LAt wr w.heap.size g3 v3 s3 ∧ NeRow v1 v2 ∧ NeRow v1 v3 ∧ NeRow v2 v3
theorem Tri.swap {w wr : World} {g1 g2 g3 : Nat} {s1 s2 s3 : St} (h : Tri w wr g1 g2 g3 s1 s2 s3) : Tri w wr g2 g1 g3 s2 s1 s3 := by
  obtain ⟨h0, h1, h2, h3, v1, v2, v3, t1, t2, t3, n1, n2, n3⟩ := h
  exact ⟨h0, h1.symm, h3, h2, v2, v1, v3, t2, t1, t3, ne_symm n1, n3, n2⟩
theorem Tri.turn {w wr : World} {g1 g2 g3 : Nat} {s1 s2 s3 : St} (h : Tri w wr g1 g2 g3 s1 s2 s3) : Tri w wr g3 g2 g1 s3 s2 s1 := by
  obtain ⟨h0, h1, h2, h3, v1, v2, v3, t1, t2, t3, n1, n2, n3⟩ := h
  exact ⟨h0, h3.symm, h2.symm, h1.symm, v3, v2, v1, t3, t2, t1, ne_symm n3, ne_symm n2, ne_symm n1⟩
theorem Tri.then {w wr wr' : World} {g1 g2 g3 : Nat} {s1 s2 s3 : St} (h : Tri w wr g1 g2 g3 s1 s2 s3) (b : Below wr.heap.size wr wr') : Tri w wr' g1 g2 g3 s1 s2 s3 := by
  obtain ⟨h0, h1, h2, h3, v1, v2, v3, t1, t2, t3, n⟩ := h
  exact ⟨below_step h0 b, h1, h2, h3, v1, v2, v3, t1.then b, t2.then b, t3.then b, n⟩
theorem Tri.step {w wr w' : World} {g1 g2 g3 : Nat} {v1 : Value} {s1 s2 s3 s' : St} (h : Tri w wr g1 g2 g3 s1 s2 s3) (k : ∀ v1, LAt wr w.heap.size g1 v1 s1 → LPost wr w' w.heap.size g1 v1 s') : Tri w w' g1 g2 g3 s' s2 s3 := by
  obtain ⟨h0, h1, h2, h3, v1, v2, v3, t1, t2, t3, n1, n2, n3⟩ := h
  have p := k v1 t1
  have b := p.below t1 h0
  obtain ⟨v1', l1, k1, nr⟩ := p
  exact ⟨b, h1, h2, h3, v1', v2, v3, l1, t2.other t1 k1 h1.symm n1, t3.other t1 k1 h2.symm n2, ne_new n1 nr t2, ne_new n2 nr t3, n3⟩
theorem tri_add (w wr : World) (g1 g2 g3 : Nat) (s1 s2 s3 : St) (cy lv : Int) (on : Bool) (h : Tri w wr g1 g2 g3 s1 s2 s3) (hn : s1.nums < 1000000) :
    Calls Try.prog 23 #[.pointer (some ⟨g1, 0, none⟩), .agg #[.int .i64 cy, .int .i64 lv, .bool on]] wr fun e w' => e = .returned (.int .i64 (addE s1 cy lv)) ∧ Tri w w' g1 g2 g3 (addS s1 cy lv on) s2 s3 := by
  obtain ⟨h0, h1, h2, h3, v1, v2, v3, t1, t2, t3, n1, n2, n3⟩ := h
  refine (ladd_call wr w.heap.size g1 v1 s1 cy lv on t1 hn).mono fun e w' ⟨he, p⟩ => ⟨he, ?_⟩
  have b := p.below t1 h0
  obtain ⟨v1', l1, k1, nr⟩ := p
  exact ⟨b, h1, h2, h3, v1', v2, v3, l1, t2.other t1 k1 h1.symm n1, t3.other t1 k1 h2.symm n2, ne_new n1 nr t2, ne_new n2 nr t3, n3⟩
theorem tri_at (w wr : World) (g1 g2 g3 : Nat) (s1 s2 s3 : St) (c : Int) (h : Tri w wr g1 g2 g3 s1 s2 s3) :
    Calls Try.prog 25 #[.pointer (some ⟨g1, 0, none⟩), .int .i64 c] wr fun e w' => e = .returned (.int .u32 (onN (atS s1 c).on 32 : Nat)) ∧ Tri w w' g1 g2 g3 (atS s1 c) s2 s3 := by
  obtain ⟨h0, h1, h2, h3, v1, v2, v3, t1, t2, t3, n1, n2, n3⟩ := h
  refine (lat_call wr w.heap.size g1 v1 s1 c t1).mono fun e w' ⟨he, p⟩ => ⟨he, ?_⟩
  have b := p.below t1 h0
  obtain ⟨v1', l1, k1, nr⟩ := p
  exact ⟨b, h1, h2, h3, v1', v2, v3, l1, t2.other t1 k1 h1.symm n1, t3.other t1 k1 h2.symm n2, ne_new n1 nr t2, ne_new n2 nr t3, n3⟩
theorem tri_waits (w wr : World) (g1 g2 g3 : Nat) (s1 s2 s3 : St) (h : Tri w wr g1 g2 g3 s1 s2 s3) :
    Calls Try.prog 27 #[.pointer (some ⟨g1, 0, none⟩)] wr fun e w' => e = .returned (.int .i64 s1.xs.length) ∧ wr = w' := by
  obtain ⟨h0, h1, h2, h3, v1, v2, v3, t1, _⟩ := h
  exact waits_call wr w.heap.size g1 v1 s1 t1
theorem nums_add (s : St) (cy lv : Int) (on : Bool) : (addS s cy lv on).nums ≤ s.nums + 1 := by
  unfold addS
  split
  · omega
  · split
    · omega
    · split
      · omega
      · exact Int.le_refl _
/-! Changes that come in. -/
def EvRow (W : World) (A : Option Addr) (es : List (Int × Int × Bool)) : Prop := 0 < es.length → ∃ b off, A = some ⟨b, off, none⟩ ∧ b < W.heap.size ∧ ∀ i, i < es.length → W.cell? ⟨b, off + i * 3, none⟩ = some (.int .i64 (es.getD i (0, 0, false)).1) ∧ W.cell? ⟨b, off + i * 3 + 1, none⟩ = some (.int .i64 (es.getD i (0, 0, false)).2.1) ∧ W.cell? ⟨b, off + i * 3 + 2, none⟩ = some (.bool (es.getD i (0, 0, false)).2.2)
theorem ex_list {α : Type} (d : α) (P : Nat → α → Prop) : ∀ n, (∀ i, i < n → ∃ x, P i x) → ∃ l : List α, l.length = n ∧ ∀ i, i < n → P i (l.getD i d)
  | 0, _ => ⟨[], rfl, fun i h => absurd h (Nat.not_lt_zero _)⟩
  | n + 1, h => by
    obtain ⟨l, hl, hp⟩ := ex_list d P n (fun i hi => h i (by omega))
    obtain ⟨x, hx⟩ := h n (Nat.lt_succ_self _)
    refine ⟨l ++ [x], by simp [hl], fun i hi => ?_⟩
    rw [List.getD_eq_getElem?_getD]
    by_cases hin : i < n
    · rw [List.getElem?_append_left (by omega), ← List.getD_eq_getElem?_getD]; exact hp i hin
    · obtain rfl : i = n := by omega
      rw [List.getElem?_append_right (by omega), hl, Nat.sub_self]
      exact hx
theorem evRow {w : World} {A : Option Addr} {len cap : Nat} (h : IsRow3 (IntV .i64) (IntV .i64) BoolV w A len cap) : ∃ es : List (Int × Int × Bool), es.length = len ∧ EvRow w A es := by
  by_cases hp : 0 < len
  · obtain ⟨x, rfl, hx⟩ := h.2 hp
    obtain ⟨b, off, spot⟩ := x
    obtain ⟨u0, u1, u2, _, _, _, c0, _, _⟩ := hx 0 hp
    have hspot : spot = none := by simpa [Addr.add] using World.cell?_spot c0
    subst hspot
    have hb : b < w.heap.size := by
      have := World.block_lt_of_cell? w _ c0
      simpa [Addr.add] using this
    have ap : ∀ (o i : Nat), ((⟨b, o, none⟩ : Addr).add i) = ⟨b, o + i, none⟩ := by
      intro o i
      unfold Addr.add
      by_cases hi : i = 0 <;> simp [hi]
    obtain ⟨es, hl, he⟩ := ex_list (0, 0, false) (fun i (e : Int × Int × Bool) => w.cell? ⟨b, off + i * 3, none⟩ = some (.int .i64 e.1) ∧ w.cell? ⟨b, off + i * 3 + 1, none⟩ = some (.int .i64 e.2.1) ∧ w.cell? ⟨b, off + i * 3 + 2, none⟩ = some (.bool e.2.2)) len (fun i hi => by
      obtain ⟨v0, v1, v2, ⟨a, rfl, _⟩, ⟨b', rfl, _⟩, ⟨c, rfl⟩, d0, d1, d2⟩ := hx i hi
      rw [ap] at d0 d1 d2
      exact ⟨(a, b', c), d0, d1, d2⟩)
    exact ⟨es, hl, fun _ => ⟨b, off, rfl, hb, fun i hi => he i (by omega)⟩⟩
  · exact ⟨[], by simp; omega, fun h => absurd h (by simp)⟩
theorem EvRow.then {w w' : World} {A : Option Addr} {es : List (Int × Int × Bool)} (h : EvRow w A es) (k : Below w.heap.size w w') : EvRow w' A es := fun hp => by
  obtain ⟨b, off, rfl, hb, hc⟩ := h hp
  refine ⟨b, off, rfl, Nat.lt_of_lt_of_le hb k.size, fun i hi => ?_⟩
  obtain ⟨d0, d1, d2⟩ := hc i hi
  exact ⟨(k.cell (p := ⟨b, off + i * 3, none⟩) hb).trans d0, (k.cell (p := ⟨b, off + i * 3 + 1, none⟩) hb).trans d1, (k.cell (p := ⟨b, off + i * 3 + 2, none⟩) hb).trans d2⟩
/-- The first k of them are added. -/
def addK (s : St) (es : List (Int × Int × Bool)) (k : Nat) : St := addAll s (es.take k)
theorem addK_next (s : St) (es : List (Int × Int × Bool)) (k : Nat) (hk : k < es.length) : addK s es (k + 1) = addS (addK s es k) (es.getD k (0, 0, false)).1 (es.getD k (0, 0, false)).2.1 (es.getD k (0, 0, false)).2.2 := by
  unfold addK addAll
  rw [List.take_add_one, List.getElem?_eq_getElem hk, List.getD_eq_getElem?_getD, List.getElem?_eq_getElem hk, List.foldl_append]
  rfl
theorem addK_nums (s : St) (es : List (Int × Int × Bool)) : ∀ k, k ≤ es.length → (addK s es k).nums ≤ s.nums + k
  | 0, _ => by unfold addK addAll; simp
  | k + 1, h => by
    rw [addK_next s es k (by omega)]
    have := nums_add (addK s es k) (es.getD k (0, 0, false)).1 (es.getD k (0, 0, false)).2.1 (es.getD k (0, 0, false)).2.2
    have := addK_nums s es k (by omega)
    omega
end Go.Proofs.Ytbgcbnlpjjhmhaa.LinesWalk
