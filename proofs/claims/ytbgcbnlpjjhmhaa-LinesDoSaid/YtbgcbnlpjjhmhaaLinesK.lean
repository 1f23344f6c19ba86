/- The document's lines (camshaftref22), walked: Add, next. -/
import Derived.Test.YtbgcbnlpjjhmhaaLinesJ
namespace Go.Proofs.Ytbgcbnlpjjhmhaa.LinesWalk
open Go.RowKit Go.Proofs.Ytbgcbnlpjjhmhaa.Aid Go.Proofs.YtbgcbnlpjjhmhaaW.PrintWords Go.Proofs.YtbgcbnlpjjhmhaaW.PrintLast Go.Proofs.YtbgcbnlpjjhmhaaW.PrintMore Go.Proofs.Ytbgcbnlpjjhmhaa.HeapLaw
attribute [local go_sem] max2_int min2_int max_two min_two max_three min_three max_four min_four   -- for this text's walks alone
set_option linter.unusedVariables false
set_option linter.unusedSimpArgs false
def ev3 (e : Ent) : List Value := [.int .i64 e.cy, .int .i64 e.lv, .bool e.on]
def cells3 (q : List Ent) : List Value := q.flatMap ev3
theorem cells3_cons (e : Ent) (q : List Ent) : cells3 (e :: q) = .int .i64 e.cy :: .int .i64 e.lv :: .bool e.on :: cells3 q := rfl
theorem cells3_length : ∀ q : List Ent, (cells3 q).length = q.length * 3
  | [] => rfl
  | e :: q => by rw [cells3_cons, List.length_cons, List.length_cons, List.length_cons, cells3_length q, List.length_cons]; omega
theorem cells3_append : ∀ p q : List Ent, cells3 (p ++ q) = cells3 p ++ cells3 q
  | [], _ => rfl
  | e :: p, q => by rw [List.cons_append, cells3_cons, cells3_append p q, cells3_cons]; rfl
theorem cells3_take : ∀ (q : List Ent) (k : Nat), (cells3 q).take (k * 3) = cells3 (q.take k)
  | _, 0 => by rw [Nat.zero_mul, List.take_zero, List.take_zero]; rfl
  | [], k + 1 => by rw [List.take_nil]; exact List.take_nil
  | e :: q, k + 1 => by
    rw [cells3_cons, show (k + 1) * 3 = k * 3 + 1 + 1 + 1 from by omega, List.take_succ_cons, List.take_succ_cons, List.take_succ_cons, cells3_take q k, List.take_succ_cons, cells3_cons]
theorem cells3_drop : ∀ (q : List Ent) (k : Nat), (cells3 q).drop (k * 3) = cells3 (q.drop k)
  | _, 0 => by rw [Nat.zero_mul, List.drop_zero, List.drop_zero]
  | [], k + 1 => by rw [List.drop_nil]; exact List.drop_nil
  | e :: q, k + 1 => by
    rw [cells3_cons, show (k + 1) * 3 = k * 3 + 1 + 1 + 1 from by omega, List.drop_succ_cons, List.drop_succ_cons, List.drop_succ_cons, cells3_drop q k, List.drop_succ_cons]
theorem cells3_at : ∀ (q : List Ent) (k j : Nat), k < q.length → j < 3 → (cells3 q)[k * 3 + j]? = (ev3 (gE q k))[j]?
  | [], _, _, h, _ => absurd h (Nat.not_lt_zero _)
  | e :: q, 0, j, _, hj => by
    rw [Nat.zero_mul, Nat.zero_add]
    show (ev3 e ++ cells3 q)[j]? = _
    rw [List.getElem?_append_left (by exact hj)]
    rfl
  | e :: q, k + 1, j, h, hj => by
    rw [cells3_cons, show (k + 1) * 3 + j = k * 3 + j + 1 + 1 + 1 from by omega, List.getElem?_cons_succ, List.getElem?_cons_succ, List.getElem?_cons_succ, cells3_at q k j (by simpa using h) hj]
    show _ = (ev3 (gE (e :: q) (k + 1)))[j]?
    unfold gE
    rw [List.getD_cons_succ]
theorem cells3_one (q : List Ent) : ∀ u ∈ cells3 q, u.oneCell' = true := by
  intro u hu
  unfold cells3 at hu
  obtain ⟨e, _, he⟩ := List.mem_flatMap.1 hu
  simp only [ev3, List.mem_cons, List.not_mem_nil, or_false] at he
  rcases he with rfl | rfl | rfl <;> rfl
theorem infoR : (Try.prog.info? 47).map (fun i => (i.zero, i.size, i.bytes)) = some (some (.agg #[.int .i64 0, .int .i64 0, .bool false]), 3, 24) := by kernel_rfl
/-- Which lines are on, as cells. -/
def onL (on : Nat → Bool) : List Value := (List.range 32).map fun i => .bool (on i)
/-- The document's lines in a state. -/
structure RAt (W : World) (base g : Nat) (v : Value) (s : St) : Prop where
  blk : W.heap[g]? = some (.cells (v :: .int .i64 s.now :: onL s.on).toArray 45 (0, 0))
  ge : base ≤ g
  row : W.ownsRow base 47 3 v s.xs.length (cells3 s.xs)
  len : s.xs.length ≤ 4096
theorem RAt.lt {W : World} {base g : Nat} {v : Value} {s : St} (h : RAt W base g v s) : g < W.heap.size := (Array.getElem?_eq_some_iff.1 h.blk).1
theorem RAt.f0 {W : World} {base g : Nat} {v : Value} {s : St} (h : RAt W base g v s) : W.cell? ⟨g, 0, none⟩ = some v := by
  have := cell_of_row W g 0 _ _ _ h.blk
  rw [this]; simp
theorem RAt.f1 {W : World} {base g : Nat} {v : Value} {s : St} (h : RAt W base g v s) : W.cell? ⟨g, 1, none⟩ = some (.int .i64 s.now) := by
  have := cell_of_row W g 1 _ _ _ h.blk
  rw [this]; simp
theorem RAt.f2 {W : World} {base g : Nat} {v : Value} {s : St} (h : RAt W base g v s) (i : Nat) (hi : i < 32) : W.cell? ⟨g, 2 + i, none⟩ = some (.bool (s.on i)) := by
  have := cell_of_row W g (2 + i) _ _ _ h.blk
  rw [this, List.getElem?_toArray, show 2 + i = i + 1 + 1 from by omega, List.getElem?_cons_succ, List.getElem?_cons_succ]
  unfold onL
  rw [List.getElem?_map, List.getElem?_range hi]
  rfl
theorem RAt.fr {W : World} {base g : Nat} {v : Value} {s : St} (h : RAt W base g v s) (j : Nat) : W.frozen? ⟨g, j, none⟩ = false := frozen_of_row W g j _ _ h.blk
theorem RAt.then {W W' : World} {base g : Nat} {v : Value} {s : St} (h : RAt W base g v s) (k : Below W.heap.size W W') : RAt W' base g v s :=
  ⟨(k.block g h.lt).trans h.blk, h.ge, own_then h.row k, h.len⟩
theorem RAt.ne {W : World} {base g : Nat} {v : Value} {s : St} (h : RAt W base g v s) : v.ownBlock ≠ some g := by
  intro e
  rcases h.row.2 with ⟨rfl, _⟩ | ⟨b, c, cur, rfl, hb, hh, _⟩
  · simp [Value.ownBlock] at e
  · simp only [Value.ownBlock, Option.some.injEq] at e
    subst e
    have := h.blk
    rw [this] at hh
    simp at hh
theorem RAt.own {W : World} {base g : Nat} {v : Value} {s : St} (h : RAt W base g v s) : ∃ A c, v = .slice A s.xs.length c := by
  rcases h.row.2 with ⟨rfl, h0⟩ | ⟨b, c, cur, rfl, _⟩
  · exact ⟨none, 0, by rw [h0]⟩
  · exact ⟨_, c, rfl⟩
theorem RAt.cell {W : World} {base g b n c : Nat} {s : St} (h : RAt W base g (.slice (some ⟨b, 0, none⟩) n c) s) (k j : Nat) (hk : k < s.xs.length) (hj : j < 3) : W.cell? ⟨b, k * 3 + j, none⟩ = (ev3 (gE s.xs k))[j]? := by
  have hn : n = s.xs.length := by
    rcases h.row.2 with ⟨hv, _⟩ | ⟨b', c', cur, hv, _⟩
    · simp at hv
    · simp only [Value.slice.injEq] at hv
      exact hv.2.1
  subst hn
  have := World.ownsRow.cellAt h.row (k * 3 + j) (by omega)
  rw [cells3_at s.xs k j hk hj] at this
  exact this
theorem RAt.shape {W : World} {base g n : Nat} {v : Value} {s : St} (h : RAt W base g v s) (hq : s.xs.length = n) (hn : 0 < n) : ∃ b c, v = .slice (some ⟨b, 0, none⟩) n c := by
  have := h.row
  obtain ⟨m, rfl⟩ : ∃ m, n = m + 1 := ⟨n - 1, by omega⟩
  rw [hq] at this
  exact own_some this
/-- What a call of the document's lines leaves. -/
def RPost (w w' : World) (base g : Nat) (v : Value) (s : St) : Prop := ∃ v', RAt w' base g v' s ∧ Kept2 w w' g v.ownBlock ∧ NewRow w v v'
theorem RPost.of_below {w w' : World} {base g : Nat} {v : Value} {s : St} (h : RAt w base g v s) (b : Below w.heap.size w w') : RPost w w' base g v s := ⟨v, h.then b, Kept2.of_below b _ _, .inl rfl⟩
theorem nextF_bd (now : Int) (xs : List Ent) : ∀ k, k ≤ xs.length → nextF now xs k = -1 ∨ ∃ i : Nat, nextF now xs k = i ∧ i < k := by
  intro k hk
  rcases nextF_spec now xs k hk with ⟨h, _⟩ | ⟨i, h, h2, _⟩
  · exact .inl h
  · exact .inr ⟨i, h, h2⟩
set_option maxRecDepth 100000 in
set_option maxHeartbeats 2000000 in
theorem rnext_call (w : World) (base g : Nat) (v : Value) (s : St) (h : RAt w base g v s) :
    Calls Try.prog 39 #[.pointer (some ⟨g, 0, none⟩)] w fun e w' => e = .returned (.int .i64 (nextF s.now s.xs s.xs.length)) ∧ Below w.heap.size w w' := by
  obtain ⟨A, c, rfl⟩ := h.own
  have H := Aside0.mk h
  have hl := h.len
  have c0 := h.f0
  clear h
  generalize hn : s.xs.length = n at *
  have HN := Aside0.mk hn
  clear hn
  go_enter Try.func39, Try.ntmps39
  go_wp2
  go_loopw [3, 11] (fun av iv wr => ∃ k : Nat, k ≤ n ∧ iv = .int .i64 k ∧ av = .int .i64 (nextF s.now s.xs k) ∧ Below w.heap.size w wr) (fun _ iv _ => n - (intOf iv).toNat)
  case atStart => exact ⟨0, Nat.zero_le _, rfl, rfl, Below.refl _ _⟩
  case round =>
    obtain ⟨k, hk, rfl, rfl, hb⟩ := hrel
    have B := Aside0.mk hb
    by_cases hkn : k = n
    · subst hkn
      clear hb
      go_wp2
      go_ret
      exact ⟨rfl, B.out⟩
    · have hk' : k < n := by omega
      obtain ⟨b, cc, hv⟩ := H.out.shape HN.out (by omega)
      obtain ⟨rfl, -, rfl⟩ : A = some ⟨b, 0, none⟩ ∧ True ∧ c = cc := by simp at hv; exact ⟨hv.1, trivial, hv.2⟩
      clear hv
      have R := H.out.then hb
      have d0 := R.cell k 0 (by have := HN.out; omega) (by decide)
      have d1 := R.cell k 1 (by have := HN.out; omega) (by decide)
      have d2 := R.cell k 2 (by have := HN.out; omega) (by decide)
      simp only [ev3, List.getElem?_cons_zero, List.getElem?_cons_succ, Nat.add_zero] at d0 d1 d2
      have al0 : ∀ o, (wr.alloc o).cell? ⟨g, 0, none⟩ = some (.slice (some ⟨b, 0, none⟩) n c) := fun o => ((below_alloc (Below.refl wr.heap.size wr) o).cell (p := ⟨g, 0, none⟩) R.lt).trans R.f0
      have al1 : ∀ o, (wr.alloc o).cell? ⟨g, 1, none⟩ = some (.int .i64 s.now) := fun o => ((below_alloc (Below.refl wr.heap.size wr) o).cell (p := ⟨g, 1, none⟩) R.lt).trans R.f1
      have hnext : nextF s.now s.xs (k + 1) = if (gE s.xs k).cy ≤ s.now ∧ (nextF s.now s.xs k < 0 ∨ (gE s.xs k).cy < (gE s.xs (nextF s.now s.xs k).toNat).cy) then (k : Int) else nextF s.now s.xs k := rfl
      have BA : Aside0 (∀ o m, Below w.heap.size w ((wr.alloc o).drewN m)) := ⟨fun o m => pw_below_drewN (below_alloc B.out o) m⟩
      have hbd := nextF_bd s.now s.xs k (by have := HN.out; omega)
      generalize hnow : s.now = now at *
      generalize (gE s.xs k).lv = y1 at *
      generalize (gE s.xs k).on = y2 at *
      rcases hbd with hat | ⟨i, hat, hik⟩
      · rw [hat] at hnext ⊢
        by_cases hcy : (gE s.xs k).cy ≤ now
        · rw [if_pos ⟨hcy, .inl (by decide)⟩] at hnext
          have HX := Aside0.mk hnext
          clear hnext hb R hat hnow
          generalize (gE s.xs k).cy = y0 at *
          go_wp2
          go_quiet (fail)
          go_wp2
          go_roundw
          case rel => exact ⟨k + 1, hk', by go_num, by rw [HX.out], BA.out _ _⟩
          case measure => simp [intOf]; omega
        · rw [if_neg (fun q => hcy q.1)] at hnext
          have HX := Aside0.mk hnext
          clear hnext hb R hat hnow
          generalize (gE s.xs k).cy = y0 at *
          have hcy2 : decide (y0 ≤ now) = false := decide_eq_false hcy
          go_wp2
          go_quiet (fail)
          go_wp2
          go_roundw
          case rel => exact ⟨k + 1, hk', by go_num, by rw [HX.out], BA.out _ _⟩
          case measure => simp [intOf]; omega
      · rw [hat] at hnext ⊢
        rw [Int.toNat_natCast] at hnext
        have x0 := R.cell i 0 (by have := HN.out; omega) (by decide)
        simp only [ev3, List.getElem?_cons_zero, Nat.add_zero] at x0
        have ali : ∀ o, (wr.alloc o).cell? ⟨b, i * 3, none⟩ = some (.int .i64 (gE s.xs i).cy) := fun o => ((below_alloc (Below.refl wr.heap.size wr) o).cell (p := ⟨b, i * 3, none⟩) (own_lt R.row b rfl)).trans x0
        have hi0 : (0 : Int) ≤ i := by omega
        have hin : (i : Int) < n := by omega
        have hi1 : decide ((i : Int) < 0) = false := decide_eq_false (by omega)
        by_cases hcy : (gE s.xs k).cy ≤ now
        · by_cases hlt : (gE s.xs k).cy < (gE s.xs i).cy
          · rw [if_pos ⟨hcy, .inr hlt⟩] at hnext
            have HX := Aside0.mk hnext
            clear hnext hb R hat hnow
            generalize (gE s.xs k).cy = y0 at *
            generalize (gE s.xs i).cy = z0 at *
            have hcy2 : decide (y0 ≤ now) = true := decide_eq_true hcy
            have hlt2 : decide (y0 < z0) = true := decide_eq_true hlt
            go_wp2
            go_quiet (fail)
            go_wp2
            go_roundw
            case rel => exact ⟨k + 1, hk', by go_num, by rw [HX.out], BA.out _ _⟩
            case measure => simp [intOf]; omega
          · rw [if_neg (fun q => q.2.elim (fun q => by omega) hlt)] at hnext
            have HX := Aside0.mk hnext
            clear hnext hb R hat hnow
            generalize (gE s.xs k).cy = y0 at *
            generalize (gE s.xs i).cy = z0 at *
            have hcy2 : decide (y0 ≤ now) = true := decide_eq_true hcy
            have hlt2 : decide (y0 < z0) = false := decide_eq_false hlt
            go_wp2
            go_quiet (fail)
            go_wp2
            go_roundw
            case rel => exact ⟨k + 1, hk', by go_num, by rw [HX.out], BA.out _ _⟩
            case measure => simp [intOf]; omega
        · rw [if_neg (fun q => hcy q.1)] at hnext
          have HX := Aside0.mk hnext
          clear hnext hb R hat hnow
          generalize (gE s.xs k).cy = y0 at *
          have hcy2 : decide (y0 ≤ now) = false := decide_eq_false hcy
          go_wp2
          go_quiet (fail)
          go_wp2
          go_roundw
          case rel => exact ⟨k + 1, hk', by go_num, by rw [HX.out], BA.out _ _⟩
          case measure => simp [intOf]; omega
end Go.Proofs.Ytbgcbnlpjjhmhaa.LinesWalk
