/- Rom: entries in memory; Good, walked. -/
import Derived.Test.YtnljnccfpkpgfaaDoorRomE
import Derived.Test.YtnljnccfpkpgfaaDoorRomF
namespace Go.Proofs.YtnljnccfpkpgfaaDoor.RomWalk
open Go.RowKit Go.Proofs.YtnljnccfpkpgfaaDoor.Aid Go.Proofs.YtnljnccfpkpgfaaDoorW.PrintWords Go.Proofs.YtnljnccfpkpgfaaDoorW.PrintLast Go.Proofs.YtnljnccfpkpgfaaDoorW.PrintMore
open Go.Shelf
attribute [local go_sem] max2_int min2_int max_two min_two max_three min_three max_four min_four   -- for this text's walks alone
set_option linter.unusedVariables false
set_option linter.unusedSimpArgs false
abbrev Ent := ByteArray × Int
def encE (x : Ent) : List Value := [.string x.1, .int .i64 x.2]
/-- A slice of entries. -/
structure ReadsE (W : World) (B : Option Addr) (m : Nat) (es : Ents) : Prop where
  len : es.length = m
  max : m ≤ 9223372036854775807
  cells : 0 < m → ∃ b off, B = some ⟨b, off, none⟩ ∧ b < W.heap.size ∧ ∀ j, j < m → W.cell? ⟨b, off + j * 2, none⟩ = some (.string (es.getD j default).1) ∧ W.cell? ⟨b, off + j * 2 + 1, none⟩ = some (.int .i64 (es.getD j default).2)
theorem ReadsE.then {W W' : World} {B : Option Addr} {m : Nat} {es : Ents} (h : ReadsE W B m es) (b : Below W.heap.size W W') : ReadsE W' B m es :=
  ⟨h.len, h.max, fun hm => by
    obtain ⟨b0, off, e, hb, hc⟩ := h.cells hm
    exact ⟨b0, off, e, Nat.lt_of_lt_of_le hb b.size, fun j hj => ⟨(b.cell (p := ⟨b0, off + j * 2, none⟩) hb).trans (hc j hj).1, (b.cell (p := ⟨b0, off + j * 2 + 1, none⟩) hb).trans (hc j hj).2⟩⟩⟩
theorem ReadsE.blt {W : World} {b off m : Nat} {es : Ents} (h : ReadsE W (some ⟨b, off, none⟩) m es) (hm : 0 < m) : b < W.heap.size := by
  obtain ⟨b', off', e, hb, _⟩ := h.cells hm
  simp only [Option.some.injEq, Addr.mk.injEq, and_true] at e
  obtain ⟨rfl, rfl⟩ := e
  exact hb
theorem row_below {W W' : World} {g : Nat} {cs : Array Value} {ty : TypeId} {fr : Nat × Nat} (h : W.heap[g]? = some (.cells cs ty fr)) (b : Below W.heap.size W W') : W'.heap[g]? = some (.cells cs ty fr) := (b.block g (Array.getElem?_eq_some_iff.1 h).1).trans h
theorem ReadsE.nil (W : World) : ReadsE W none 0 [] := ⟨rfl, Nat.zero_le _, fun h => absurd h (Nat.lt_irrefl 0)⟩
/-- No text is longer than a text may be. -/
def EZ (es : Ents) : Prop := ∀ e ∈ es, e.1.size ≤ maxLen
theorem EZ.get {es : Ents} (h : EZ es) (j : Nat) (hj : j < es.length) : (es.getD j default).1.size ≤ maxLen := by
  rw [List.getD_eq_getElem?_getD, List.getElem?_eq_getElem hj]
  exact h _ (List.getElem_mem hj)
/-- The closure of Good: is it the name? -/
theorem pred_good (nm : ByteArray) (B : Nat) (w : World) (hB : B < w.heap.size) (hcell : w.cell? ⟨B, 0, none⟩ = some (.string nm)) :
    PredBelow Tryd.prog 25 #[.pointer (some ⟨B, 0, none⟩)] (fun x : Ent => .agg (encE x).toArray) (fun x => x.1.toList == nm.toList) w := fun W x hb => by
  have hc : W.cell? ⟨B, 0, none⟩ = some (.string nm) := (hb.cell (p := ⟨B, 0, none⟩) hB).trans hcell
  have hBW : B < W.heap.size := Nat.lt_of_lt_of_le hB hb.size
  have hne : B ≠ W.heap.size := by omega
  show Calls Tryd.prog 25 #[.agg #[.string x.1, .int .i64 x.2], .pointer (some ⟨B, 0, none⟩)] W _
  have hbl := hb.alloc hb.size (.cells #[.string x.1, .int .i64 x.2] 38 (0, 0))
  go_enter Tryd.func25, Tryd.ntmps25
  go_wp2
  all_goals (go_ret; exact ⟨by simp_all, hbl⟩)
theorem bt_eq (x y : ByteArray) : (x.toList == y.toList) = decide (x = y) := by
  rw [Lib.toList_data, Lib.toList_data, Bool.eq_iff_iff, beq_iff_eq, decide_eq_true_eq]
  constructor
  · intro h
    obtain ⟨a⟩ := x
    obtain ⟨b⟩ := y
    have : a = b := Array.toList_inj.1 h
    rw [this]
  · intro h; rw [h]
theorem contains_call (w : World) (b off j c : Nat) (es : Ents) (nm : ByteArray) (B : Nat) (hB : B < w.heap.size) (hcell : w.cell? ⟨B, 0, none⟩ = some (.string nm)) (hj : j ≤ es.length) (hbig : j ≤ 9223372036854775807) (hb : b < w.heap.size)
    (hc : ∀ i, i < es.length → w.cell? ⟨b, off + i * 2, none⟩ = some (.string (es.getD i default).1) ∧ w.cell? ⟨b, off + i * 2 + 1, none⟩ = some (.int .i64 (es.getD i default).2)) :
    Calls Tryd.prog 24 #[.slice (some ⟨b, off, none⟩) j c, .func (.func 25) #[] #[.pointer (some ⟨B, 0, none⟩)]] w fun e w' => e = .returned (.bool ((es.take j).any fun x => decide (x.1 = nm))) ∧ Below w.heap.size w w' := by
  have eg : ∀ args w, (callFunc 25 args).run Tryd.prog w = .ok (.enter 25 args) w := enters_of Tryd.func25 (by kernel_rfl) rfl
  have h := AnyQ.slices_ContainsFunc Tryd.lays24 2 Tryd.isAgg38 Tryd.sizeOf38 encE (fun _ => rfl) (fun x : Ent => x.1.toList == nm.toList) 25 #[.pointer (some ⟨B, 0, none⟩)] eg b off j c es w
    (pred_good nm B w hB hcell) hj hbig hb (fun i hi q v hv => by
      have h1 := hc i hi
      have e : es[i]! = es.getD i default := by rw [List.getElem!_eq_getElem?_getD, List.getD_eq_getElem?_getD]
      rw [e] at hv
      generalize es.getD i default = y at hv h1
      match q, hv with
      | 0, hv => simp [encE] at hv; rw [← hv]; exact h1.1
      | 1, hv => simp [encE] at hv; rw [← hv]; exact h1.2
      | q + 2, hv => simp [encE] at hv)
  have e : (fun x : Ent => x.1.toList == nm.toList) = fun x : Ent => decide (x.1 = nm) := funext fun x => bt_eq _ _
  rw [e] at h
  exact h
theorem good_len {ws : List Int} {es : Ents} (h : 2048 < ws.length ∨ 255 < es.length) : goodS ws es = false := by
  unfold goodS
  rcases h with h | h
  · rw [decide_eq_false (by omega : ¬ ws.length ≤ 2048)]; simp
  · rw [decide_eq_false (by omega : ¬ es.length ≤ 255)]; simp
theorem good_bad {ws : List Int} {es : Ents} {j : Nat} (hj : j < es.length) (h : okE ws es j = false) : goodS ws es = false := by
  unfold goodS
  have : (List.range es.length).all (okE ws es) = false := by
    rw [List.all_eq_false]
    exact ⟨j, List.mem_range.2 hj, by rw [h]; decide⟩
  rw [this]; simp
theorem good_fine {ws : List Int} {es : Ents} (h1 : ws.length ≤ 2048) (h2 : es.length ≤ 255) (h : ∀ j, j < es.length → okE ws es j = true) : goodS ws es = true := by
  unfold goodS
  rw [decide_eq_true h1, decide_eq_true h2, List.all_eq_true.2 (fun j hj => h j (List.mem_range.1 hj))]
  rfl
theorem okE_eq (ws : List Int) (es : Ents) (j : Nat) : okE ws es j = (nameS (es.getD j default).1 && decide (0 ≤ (es.getD j default).2) && decide ((es.getD j default).2 < ws.length) && !((es.take j).any fun x => decide (x.1 = (es.getD j default).1))) := by
  unfold okE
  congr 1
  rw [Bool.eq_iff_iff]
  simp
/-- A ROM as an argument. -/
structure RomIn (W : World) (A : Option Addr) (n c : Nat) (B : Option Addr) (m d : Nat) (ws : List Int) (es : Ents) : Prop where
  words : ReadsInt W .u64 A n ws
  cw : n ≤ c
  ents : ReadsE W B m es
  ce : m ≤ d
  ez : EZ es
theorem RomIn.then {W W' : World} {A : Option Addr} {n c : Nat} {B : Option Addr} {m d : Nat} {ws : List Int} {es : Ents} (h : RomIn W A n c B m d ws es) (b : Below W.heap.size W W') : RomIn W' A n c B m d ws es := ⟨h.words.below b, h.cw, h.ents.then b, h.ce, h.ez⟩
set_option maxRecDepth 100000 in
set_option maxHeartbeats 8000000 in
theorem good_call (w : World) (A : Option Addr) (n c : Nat) (B : Option Addr) (m d : Nat) (ws : List Int) (es : Ents) (h : RomIn w A n c B m d ws es) :
    Calls Tryd.prog 12 #[.agg #[.slice A n c, .slice B m d]] w fun e w' => e = .returned (.bool (goodS ws es)) ∧ Below w.heap.size w w' := by
  have hn := h.words.1
  have hm := h.ents.len
  have BX := below_alloc (Below.refl w.heap.size w) (.cells #[.slice A n c, .slice B m d] 25 (0, 0))
  have XB := heap_alloc_new w (.cells #[.slice A n c, .slice B m d] 25 (0, 0))
  by_cases h2 : 2048 < n ∨ 255 < m
  · rw [good_len (by omega)]
    have H := Aside0.mk BX
    clear BX XB h
    by_cases h1 : 2048 < n
    · have h3 : (2048 : Int) < n := by omega
      clear h2
      go_enter Tryd.func12, Tryd.ntmps12
      go_wp2
      go_ret
      exact ⟨rfl, H.out⟩
    · have h3 : (255 : Int) < m := by omega
      have h4 : ¬ (2048 : Int) < n := by omega
      clear h2
      go_enter Tryd.func12, Tryd.ntmps12
      go_wp2
      go_ret
      exact ⟨rfl, H.out⟩
  have hn1 : ¬ (2048 : Int) < n := by omega
  have hm1 : ¬ (255 : Int) < m := by omega
  have hn2 : n ≤ 2048 := by omega
  have hm2 : m ≤ 255 := by omega
  clear h2
  have H := Aside0.mk (h.then BX)
  obtain ⟨W, hW⟩ : ∃ W, w.alloc (.cells #[.slice A n c, .slice B m d] 25 (0, 0)) = W := ⟨_, rfl⟩
  rw [hW] at BX XB H
  have hBX := Aside0.mk BX
  have hXB := Aside0.mk XB
  have hB := Aside0.mk XB
  have c0 := cell_of_row _ _ 0 _ _ _ XB
  have c1 := cell_of_row _ _ 1 _ _ _ XB
  simp only [List.getElem?_toArray, List.getElem?_cons_zero, List.getElem?_cons_succ] at c0 c1
  clear h BX XB
  go_enter Tryd.func12, Tryd.ntmps12
  go_wp2_with fail
  go_loopw [18] (fun i wr => ∃ j : Nat, j ≤ m ∧ i = .int .i64 j ∧ Aside0 (∀ i, i < j → okE ws es i = true) ∧ Aside0 (Below W.heap.size W wr)) (fun i _ => m - (intOf i).toNat)
  case atStart => exact ⟨0, Nat.zero_le _, rfl, ⟨fun i hi => absurd hi (Nat.not_lt_zero _)⟩, ⟨Below.refl _ _⟩⟩
  case round =>
    obtain ⟨j, hj, rfl, HA, HB⟩ := hrel
    by_cases hjm : j = m
    · subst hjm
      go_wp2
      go_ret
      refine ⟨congrArg (fun q => Ending.returned (Value.bool q)) (good_fine (by omega) (by omega) (fun i hi => HA.out i (by omega))).symm, below_step hBX.out HB.out⟩
    · have hj' : j < m := by omega
      have hj1 : (j : Int) < m := by omega
      have hj0 : (0 : Int) ≤ j := by omega
      have HJ := Aside0.mk hj'
      have R := Aside0.mk (H.out.then HB.out)
      obtain ⟨b, off, rfl, hbl, hcl⟩ := R.out.ents.cells (by omega)
      obtain ⟨e0, e1⟩ := hcl j hj'
      have hez := R.out.ez.get j (by omega)
      obtain ⟨nm, hnm⟩ : ∃ nm, (es.getD j default).1 = nm := ⟨_, rfl⟩
      obtain ⟨at_, hat⟩ : ∃ at_, (es.getD j default).2 = at_ := ⟨_, rfl⟩
      rw [hnm] at e0 hez
      rw [hat] at e1
      have bl := below_alloc HB.out (.cells #[.string nm, .int .i64 at_] 38 (0, 0))
      have hX2 := heap_alloc_new wr (.cells #[.string nm, .int .i64 at_] 38 (0, 0))
      have hY2 := (bl.block _ (Array.getElem?_eq_some_iff.1 hXB.out).1).trans hXB.out
      have R2 := R.out.then (below_alloc (Below.refl _ _) (.cells #[.string nm, .int .i64 at_] 38 (0, 0)))
      obtain ⟨W2, hW2⟩ : ∃ W2, wr.alloc (.cells #[.string nm, .int .i64 at_] 38 (0, 0)) = W2 := ⟨_, rfl⟩
      rw [hW2] at bl hX2 hY2 R2
      have g0 := cell_of_row _ _ 0 _ _ _ hX2
      have g1 := cell_of_row _ _ 1 _ _ _ hX2
      simp only [List.getElem?_toArray, List.getElem?_cons_zero, List.getElem?_cons_succ] at g0 g1
      have BL := Aside0.mk bl
      have hX2 := Aside0.mk hX2
      have hY2 := Aside0.mk hY2
      have R2 := Aside0.mk R2
      have NC := Aside0.mk (fun w => name_call w nm hez)
      have hnmA := Aside0.mk hnm
      have hatA := Aside0.mk hat
      have HCL := Aside0.mk (fun (w3 : World) (r : RomIn w3 A n c (some ⟨b, off, none⟩) m d ws es) => (show ∀ i, i < es.length → w3.cell? ⟨b, off + i * 2, none⟩ = some (.string (es.getD i default).1) ∧ w3.cell? ⟨b, off + i * 2 + 1, none⟩ = some (.int .i64 (es.getD i default).2) from fun i hi => by
        obtain ⟨b', off', e, _, hc⟩ := r.ents.cells (by omega)
        simp only [Option.some.injEq, Addr.mk.injEq, and_true] at e
        obtain ⟨rfl, rfl⟩ := e
        exact hc i (by omega)))
      have hjd : j ≤ d := by have := H.out.ce; omega
      have hjd1 : (j : Int) ≤ d := by omega
      have hd9 : d ≠ 0 := by have := H.out.ce; omega
      clear hnm hat hcl bl
      cases hq1 : nameS nm with
      | false =>
        rw [hq1] at NC
        go_wp2_with (first
          | (go_at_call 13; (with_reducible refine (NC.out _).mono ?_); rintro e w3 ⟨rfl, hb⟩; have B3 := Aside0.mk (below_step BL.out hb); have X3 := Aside0.mk (row_below hX2.out hb); have hx1 := cell_of_row _ _ 1 _ _ _ X3.out; have hx0 := cell_of_row _ _ 0 _ _ _ X3.out; have Y3 := Aside0.mk (row_below hY2.out hb); have hy0 := cell_of_row _ _ 0 _ _ _ Y3.out; have hy1 := cell_of_row _ _ 1 _ _ _ Y3.out; simp only [List.getElem?_toArray, List.getElem?_cons_zero, List.getElem?_cons_succ] at hx0 hx1 hy0 hy1; have R3 := Aside0.mk (R2.out.then hb); clear hb))
        go_ret
        refine ⟨congrArg (fun q => Ending.returned (Value.bool q)) (good_bad (j := j) (by omega) ?_).symm, below_step hBX.out (B3.out)⟩
        rw [okE_eq, hnmA.out, hatA.out, hq1]
        simp
      | true =>
      rw [hq1] at NC
      by_cases hq2 : at_ < 0
      · go_wp2_with (first
          | (go_at_call 13; (with_reducible refine (NC.out _).mono ?_); rintro e w3 ⟨rfl, hb⟩; have B3 := Aside0.mk (below_step BL.out hb); have X3 := Aside0.mk (row_below hX2.out hb); have hx1 := cell_of_row _ _ 1 _ _ _ X3.out; have hx0 := cell_of_row _ _ 0 _ _ _ X3.out; have Y3 := Aside0.mk (row_below hY2.out hb); have hy0 := cell_of_row _ _ 0 _ _ _ Y3.out; have hy1 := cell_of_row _ _ 1 _ _ _ Y3.out; simp only [List.getElem?_toArray, List.getElem?_cons_zero, List.getElem?_cons_succ] at hx0 hx1 hy0 hy1; have R3 := Aside0.mk (R2.out.then hb); clear hb))
        go_ret
        refine ⟨congrArg (fun q => Ending.returned (Value.bool q)) (good_bad (j := j) (by omega) ?_).symm, below_step hBX.out (B3.out)⟩
        rw [okE_eq, hnmA.out, hatA.out, decide_eq_false (by omega : ¬ 0 ≤ at_)]
        simp
      by_cases hq3 : (n : Int) ≤ at_
      · go_wp2_with (first
          | (go_at_call 13; (with_reducible refine (NC.out _).mono ?_); rintro e w3 ⟨rfl, hb⟩; have B3 := Aside0.mk (below_step BL.out hb); have X3 := Aside0.mk (row_below hX2.out hb); have hx1 := cell_of_row _ _ 1 _ _ _ X3.out; have hx0 := cell_of_row _ _ 0 _ _ _ X3.out; have Y3 := Aside0.mk (row_below hY2.out hb); have hy0 := cell_of_row _ _ 0 _ _ _ Y3.out; have hy1 := cell_of_row _ _ 1 _ _ _ Y3.out; simp only [List.getElem?_toArray, List.getElem?_cons_zero, List.getElem?_cons_succ] at hx0 hx1 hy0 hy1; have R3 := Aside0.mk (R2.out.then hb); clear hb))
        go_ret
        refine ⟨congrArg (fun q => Ending.returned (Value.bool q)) (good_bad (j := j) (by omega) ?_).symm, below_step hBX.out (B3.out)⟩
        rw [okE_eq, hnmA.out, hatA.out, decide_eq_false (by omega : ¬ at_ < (ws.length : Int))]
        simp
      cases hq4 : ((es.take j).any fun x => decide (x.1 = nm)) with
      | true =>
        have CC := Aside0.mk (fun w3 hB hcell hb hc => hq4 ▸ contains_call w3 b off j d es nm wr.heap.size hB hcell (by omega) (by omega) hb hc)
        go_wp2_with (first
          | (go_at_call 13; (with_reducible refine (NC.out _).mono ?_); rintro e w3 ⟨rfl, hb⟩; have B3 := Aside0.mk (below_step BL.out hb); have X3 := Aside0.mk (row_below hX2.out hb); have hx1 := cell_of_row _ _ 1 _ _ _ X3.out; have hx0 := cell_of_row _ _ 0 _ _ _ X3.out; have Y3 := Aside0.mk (row_below hY2.out hb); have hy0 := cell_of_row _ _ 0 _ _ _ Y3.out; have hy1 := cell_of_row _ _ 1 _ _ _ Y3.out; simp only [List.getElem?_toArray, List.getElem?_cons_zero, List.getElem?_cons_succ] at hx0 hx1 hy0 hy1; have R3 := Aside0.mk (R2.out.then hb); clear hb)
          | (go_at_call 24; (with_reducible refine (CC.out w3 (Array.getElem?_eq_some_iff.1 X3.out).1 hx0 (ReadsE.blt R3.out.ents (by omega)) (HCL.out w3 R3.out)).mono ?_); rintro e w4 ⟨rfl, hb⟩; have B4 := Aside0.mk (below_step B3.out hb); clear hb))
        go_ret
        refine ⟨congrArg (fun q => Ending.returned (Value.bool q)) (good_bad (j := j) (by omega) ?_).symm, below_step hBX.out (B4.out)⟩
        rw [okE_eq, hnmA.out, hatA.out, hq4]
        simp
      | false =>
        have CC := Aside0.mk (fun w3 hB hcell hb hc => hq4 ▸ contains_call w3 b off j d es nm wr.heap.size hB hcell (by omega) (by omega) hb hc)
        go_wp2_with (first
          | (go_at_call 13; (with_reducible refine (NC.out _).mono ?_); rintro e w3 ⟨rfl, hb⟩; have B3 := Aside0.mk (below_step BL.out hb); have X3 := Aside0.mk (row_below hX2.out hb); have hx1 := cell_of_row _ _ 1 _ _ _ X3.out; have hx0 := cell_of_row _ _ 0 _ _ _ X3.out; have Y3 := Aside0.mk (row_below hY2.out hb); have hy0 := cell_of_row _ _ 0 _ _ _ Y3.out; have hy1 := cell_of_row _ _ 1 _ _ _ Y3.out; simp only [List.getElem?_toArray, List.getElem?_cons_zero, List.getElem?_cons_succ] at hx0 hx1 hy0 hy1; have R3 := Aside0.mk (R2.out.then hb); clear hb)
          | (go_at_call 24; (with_reducible refine (CC.out w3 (Array.getElem?_eq_some_iff.1 X3.out).1 hx0 (ReadsE.blt R3.out.ents (by omega)) (HCL.out w3 R3.out)).mono ?_); rintro e w4 ⟨rfl, hb⟩; have B4 := Aside0.mk (below_step B3.out hb); clear hb))
        go_roundw
        case rel =>
          refine ⟨j + 1, by omega, by go_num, ⟨fun i hi => ?_⟩, ⟨B4.out⟩⟩
          rcases Nat.lt_succ_iff_lt_or_eq.1 hi with hi | rfl
          · exact HA.out i hi
          · rw [okE_eq, hnmA.out, hatA.out, hq1, hq4, decide_eq_true (by omega : 0 ≤ at_), decide_eq_true (by omega : at_ < (ws.length : Int))]
            rfl
        case measure => simp [intOf]; omega
end Go.Proofs.YtnljnccfpkpgfaaDoor.RomWalk
