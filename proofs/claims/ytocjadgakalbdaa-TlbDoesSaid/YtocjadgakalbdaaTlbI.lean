/- The document's buffer (camshaftref04), walked: Clear, Drop. -/
import Derived.Test.YtocjadgakalbdaaTlbH
namespace Go.Proofs.Ytocjadgakalbdaa.TlbWalk
open Go.RowKit Go.Proofs.Ytocjadgakalbdaa.Aid Go.Proofs.YtocjadgakalbdaaW.PrintWords Go.Proofs.YtocjadgakalbdaaW.PrintLast Go.Proofs.YtocjadgakalbdaaW.PrintMore
attribute [local go_sem] max2_int min2_int max_two min_two max_three min_three max_four min_four   -- for this text's walks alone
set_option linter.unusedVariables false
set_option linter.unusedSimpArgs false

/-- Blocks of other types than the document's stay. -/
def KeepR (w w' : World) : Prop := ∀ (b : Nat) (cs : Array Value) (ty : TypeId) (fr : Nat × Nat), w.heap[b]? = some (Obj.cells cs ty fr) → ty ≠ 54 → ty ≠ 22 → w'.heap[b]? = some (Obj.cells cs ty fr)
theorem KeepR.refl (w : World) : KeepR w w := fun b cs ty fr h _ _ => h
theorem KeepR.trans {a b c : World} (h : KeepR a b) (k : KeepR b c) : KeepR a c := fun i cs ty fr hi h1 h2 => k i cs ty fr (h i cs ty fr hi h1 h2) h1 h2
theorem KeepR.of_below {w w' : World} (h : Below w.heap.size w w') : KeepR w w' := fun b cs ty fr hb _ _ => (h.block b (Array.getElem?_eq_some_iff.1 hb).1).trans hb
theorem KeepR.set {w w' : World} {g : Nat} {cs : Array Value} (h : KeepR w w') (hg : w'.heap[g]? = some (.cells cs 54 (0, 0))) (j : Nat) (u : Value) : KeepR w (w'.setCell ⟨g, j, none⟩ u) := by
  intro b cs' ty fr hb h1 h2
  have := h b cs' ty fr hb h1 h2
  refine (Below.heap_setCell w' ⟨g, j, none⟩ u b ?_).trans this
  rintro rfl
  have hg' : w'.heap[b]? = some (.cells cs 54 (0, 0)) := hg
  rw [this] at hg'
  simp only [Option.some.injEq, Obj.cells.injEq] at hg'
  exact h1 hg'.2.1
theorem KeepR.grown {w w1 w2 : World} {base n : Nat} {v : Value} {xs : List Value} (h : KeepR w w1) (ho : w1.ownsRow base 22 1 v n xs) (hg : w1.grownBy w2 v.ownBlock) : KeepR w w2 := by
  intro b cs ty fr hb h1 h2
  have := h b cs ty fr hb h1 h2
  refine (hg.block b (Array.getElem?_eq_some_iff.1 this).1 fun e => ?_).trans this
  rcases ho.2 with ⟨rfl, _⟩ | ⟨b', c, cur, rfl, _, hh, _⟩
  · simp [Value.ownBlock] at e
  · simp only [Value.ownBlock, Option.some.injEq] at e
    subst e
    rw [this] at hh
    simp only [Option.some.injEq, Obj.cells.injEq] at hh
    exact h2 hh.2.1
/-- A row of numbers is no block of the document's buffer itself. -/
theorem own_ne54 {W : World} {base n g : Nat} {v : Value} {xs : List Value} {cs : Array Value} (h : W.ownsRow base 22 1 v n xs) (hg : W.heap[g]? = some (.cells cs 54 (0, 0))) : v.ownBlock ≠ some g := by
  intro e
  rcases h.2 with ⟨rfl, _⟩ | ⟨b, c, cur, rfl, _, hh, _⟩
  · simp [Value.ownBlock] at e
  · simp only [Value.ownBlock, Option.some.injEq] at e
    subst e
    rw [hg] at hh
    simp at hh

theorem rclear_call (w0 w : World) (g : Nat) (vp ve : Value) (ps : List (Int × Int)) (hb : Below w0.heap.size w0 w) (h : RefAt w w0.heap.size g vp ve ps) :
    Calls Try.prog 30 #[.pointer (some ⟨g, 0, none⟩)] w fun e w' => e = .returned (.tuple #[]) ∧ Below w0.heap.size w0 w' ∧ (∃ vp' ve', RefAt w' w0.heap.size g vp' ve' []) ∧ KeepR w w' := by
  have f0 := h.f0
  have f1 := h.f1
  have r0 := h.fr 0
  have r1 := h.fr 1
  have H := Aside0.mk h
  have B := Aside0.mk hb
  clear h hb
  go_enter Try.func30, Try.ntmps30
  go_wp2
  go_end0
  have p1 : (w.setCell ⟨g, 0, none⟩ (.slice none 0 0)).heap[g]? = some (.cells #[.slice none 0 0, ve] 54 (0, 0)) := blk_put H.out.1 0 _ rfl
  have p2 : ((w.setCell ⟨g, 0, none⟩ (.slice none 0 0)).setCell ⟨g, 1, none⟩ (.slice none 0 0)).heap[g]? = some (.cells #[.slice none 0 0, .slice none 0 0] 54 (0, 0)) := blk_put p1 1 _ rfl
  exact ⟨rfl, (B.out.setCell H.out.2.1 _).setCell H.out.2.1 _, ⟨_, _, p2, H.out.2.1, World.ownsRow_nil _ _ _ _, World.ownsRow_nil _ _ _ _, ne_nil _, Nat.zero_le _⟩, ((KeepR.refl w).set H.out.1 0 _).set p1 1 _⟩

def dropR (page : Int) (ps : List (Int × Int)) : List (Int × Int) := ps.filter fun q => decide (q.1 ≠ page)
theorem dropR_next (page : Int) (ps : List (Int × Int)) (k : Nat) (hk : k < ps.length) : dropR page (ps.take (k + 1)) = dropR page (ps.take k) ++ (if (ps.getD k nil2).1 = page then [] else [ps.getD k nil2]) := by
  unfold dropR
  rw [take_next ps k hk, List.filter_append]
  congr 1
  by_cases h : (ps.getD k nil2).1 = page
  · rw [if_pos h, List.filter_cons_of_neg (by rw [decide_eq_true_eq]; exact fun q => q h), List.filter_nil]
  · rw [if_neg h, List.filter_cons_of_pos (p := fun q : Int × Int => decide (q.1 ≠ page)) (decide_eq_true h), List.filter_nil]
theorem ref_store {W : World} {base g : Nat} {vp ve vp' ve' : Value} {ps' : List (Int × Int)} (h : W.heap[g]? = some (.cells #[vp, ve] 54 (0, 0))) (hb : base ≤ g)
    (op : W.ownsRow base 22 1 vp' ps'.length (nums .u32 (ps'.map Prod.fst))) (oe : W.ownsRow base 22 1 ve' ps'.length (nums .u32 (ps'.map Prod.snd))) (hn : NeRow vp' ve') (h8 : ps'.length ≤ 8) :
    RefAt ((W.setCell ⟨g, 0, none⟩ vp').setCell ⟨g, 1, none⟩ ve') base g vp' ve' ps' := by
  have p1 : (W.setCell ⟨g, 0, none⟩ vp').heap[g]? = some (.cells #[vp', ve] 54 (0, 0)) := blk_put h 0 _ rfl
  have p2 : ((W.setCell ⟨g, 0, none⟩ vp').setCell ⟨g, 1, none⟩ ve').heap[g]? = some (.cells #[vp', ve'] 54 (0, 0)) := blk_put p1 1 _ rfl
  have n1 := own_ne54 op h
  have n2 := own_ne54 oe h
  exact ⟨p2, hb, ownsRow_setCell_other (ownsRow_setCell_other op n1 _) n1 _, ownsRow_setCell_other (ownsRow_setCell_other oe n2 _) n2 _, hn, h8⟩

set_option maxHeartbeats 2000000 in
theorem rdrop_call (w0 w : World) (g : Nat) (vp ve : Value) (ps : List (Int × Int)) (page : Int) (hb : Below w0.heap.size w0 w) (h : RefAt w w0.heap.size g vp ve ps) :
    Calls Try.prog 28 #[.pointer (some ⟨g, 0, none⟩), .int .u32 page] w fun e w' => e = .returned (.tuple #[]) ∧ Below w0.heap.size w0 w' ∧ (∃ vp' ve', RefAt w' w0.heap.size g vp' ve' (dropR page ps)) ∧ KeepR w w' := by
  have f0 := h.f0
  have hl := h.2.2.2.2.2
  obtain ⟨A, c, rfl⟩ := own_val h.op
  obtain ⟨AE, ce, rfl⟩ := own_val h.oe
  have RP := Aside0.mk (own_reads' h.op)
  have RE := Aside0.mk (own_reads' h.oe)
  have H := Aside0.mk h
  have B0 := Aside0.mk hb
  clear h hb
  go_enter Try.func28, Try.ntmps28
  go_wp2
  go_loopw [4, 5, 13] (fun p e i wr => ∃ k : Nat, k ≤ ps.length ∧ i = .int .i64 k ∧ Aside0 (Below w.heap.size w wr) ∧ Aside0 (wr.ownsRow w.heap.size 22 1 p (dropR page (ps.take k)).length (nums .u32 ((dropR page (ps.take k)).map Prod.fst))) ∧
    Aside0 (wr.ownsRow w.heap.size 22 1 e (dropR page (ps.take k)).length (nums .u32 ((dropR page (ps.take k)).map Prod.snd))) ∧ Aside0 (NeRow p e)) (fun _ _ i _ => ps.length - (intOf i).toNat)
  case atStart => exact ⟨0, Nat.zero_le _, rfl, ⟨Below.refl _ _⟩, ⟨World.ownsRow_nil _ _ _ _⟩, ⟨World.ownsRow_nil _ _ _ _⟩, ⟨ne_nil _⟩⟩
  case round =>
    obtain ⟨k, hk, rfl, B, OP, OE, NR⟩ := hrel
    obtain ⟨A1, c1, rfl⟩ := own_val OP.out
    obtain ⟨A2, c2, rfl⟩ := own_val OE.out
    have HR := Aside0.mk (H.out.then B.out)
    by_cases hkn : k = ps.length
    · subst hkn
      have q0 := HR.out.f0
      have q1 := HR.out.f1
      have r0 := HR.out.fr 0
      have r1 := HR.out.fr 1
      have OPX := OP.out
      have OEX := OE.out
      have NX := NR.out
      rw [List.take_length] at OPX OEX NX
      have OPX := Aside0.mk OPX
      have OEX := Aside0.mk OEX
      have NX := Aside0.mk NX
      clear OP OE NR
      go_wp2
      go_end0
      have hfl : (dropR page ps).length ≤ 8 := Nat.le_trans (List.length_filter_le _ _) hl
      have p1 : (wr.setCell ⟨g, 0, none⟩ (.slice A1 (dropR page ps).length c1)).heap[g]? = some (.cells #[.slice A1 (dropR page ps).length c1, .slice AE ps.length ce] 54 (0, 0)) := blk_put HR.out.1 0 _ rfl
      refine ⟨rfl, ((below_weaken B0.out B0.out.size B.out).setCell H.out.2.1 _).setCell H.out.2.1 _, ⟨_, _, ref_store HR.out.1 H.out.2.1 (own_less OPX.out B0.out.size) (own_less OEX.out B0.out.size) NX.out hfl⟩, ((KeepR.of_below B.out).set HR.out.1 0 _).set p1 1 _⟩
    · have hk' : k < ps.length := by omega
      obtain ⟨ad, rfl, hc⟩ := RP.out.2.2 (by omega)
      obtain ⟨ae, rfl, hce⟩ := RE.out.2.2 (by omega)
      have c0 := hc k hk'
      rw [map_fst_getD ps k hk'] at c0
      have e0 := hce k hk'
      rw [map_snd_getD ps k hk'] at e0
      have cl := World.block_lt_of_cell? w _ c0
      have el := World.block_lt_of_cell? w _ e0
      have c0' := (B.out.cell cl).trans c0
      have E0 := Aside0.mk e0
      have EL := Aside0.mk el
      have nx := dropR_next page ps k hk'
      have hfk : (dropR page (ps.take k)).length ≤ 8 := Nat.le_trans (List.length_filter_le _ _) (by rw [List.length_take]; omega)
      clear hc hce c0 e0 cl el f0
      generalize ps.getD k nil2 = q at *
      obtain ⟨x, y⟩ := q
      dsimp only at c0' E0 nx
      by_cases hx : x = page
      · rw [if_pos hx, List.append_nil] at nx
        have hxb : (x != page) = false := by rw [bne_eq_false_iff_eq]; exact hx
        have NX := Aside0.mk nx
        clear nx hx
        go_wp2
        go_roundw
        case rel => exact ⟨k + 1, by omega, rfl, B, by rw [NX.out]; exact OP, by rw [NX.out]; exact OE, NR⟩
        case measure => simp [intOf]; omega
      · rw [if_neg hx] at nx
        have hxb : (x != page) = true := by rw [bne_iff_ne]; exact hx
        have NX := Aside0.mk nx
        clear nx hx
        generalize hF : dropR page (ps.take k) = F at *
        go_wp2_with (first
          | (at_builtin; refine print_append_num (w0 := w) w.heap.size rfl (.tmp 21) (.tmp 23) 23 22 .u32 4 rfl Try.underlying23 info22 (by decide) (.slice A1 F.length c1) (F.map Prod.fst) x rfl (by simp [Act.eval]) (by rw [List.length_map]; exact OP.out) B.out B.out.size (by rw [List.length_map]; omega) ?_; intro o1 w1 ho1 hb1 hg1 hat1; have hl1 : (F.map Prod.fst ++ [x]).length = F.length + 1 := (by simp); rw [hl1] at ho1; obtain ⟨A3, c3, rfl⟩ := own_val ho1; have OP1 := Aside0.mk ho1; have B1 := Aside0.mk hb1; have OE1 := Aside0.mk (own_other OE.out hg1 (ne_other NR.out)); have N1 := Aside0.mk (ne_append NR.out hat1 OE.out); have HR1 := Aside0.mk (H.out.then hb1); have q1 := HR1.out.f1; have e1 := (hb1.cell EL.out).trans E0.out; clear ho1 hb1 hg1 hat1)
          | (at_builtin; refine print_append_num (w0 := w) w.heap.size rfl (.tmp 25) (.tmp 33) 23 22 .u32 4 rfl Try.underlying23 info22 (by decide) (.slice A2 F.length c2) (F.map Prod.snd) y rfl (by simp [Act.eval]) (by rw [List.length_map]; exact OE1.out) B1.out B1.out.size (by rw [List.length_map]; omega) ?_; intro o2 w2 ho2 hb2 hg2 hat2; have hl2 : (F.map Prod.snd ++ [y]).length = F.length + 1 := (by simp); rw [hl2] at ho2; obtain ⟨A4, c4, rfl⟩ := own_val ho2; have OE2 := Aside0.mk ho2; have B2 := Aside0.mk hb2; have OP2 := Aside0.mk (own_other OP1.out hg2 (ne_other (ne_symm N1.out))); have N2 := Aside0.mk (ne_append' N1.out hat2 OP1.out); clear ho2 hb2 hg2 hat2))
        have hlen : (F ++ [(x, y)]).length = F.length + 1 := by simp
        go_roundw
        case rel => exact ⟨k + 1, by omega, by simp [hlen], B2, by rw [NX.out, hlen, List.map_append]; exact OP2, by rw [NX.out, hlen, List.map_append]; exact OE2, N2⟩
        case measure => simp [intOf]; omega
end Go.Proofs.Ytocjadgakalbdaa.TlbWalk
