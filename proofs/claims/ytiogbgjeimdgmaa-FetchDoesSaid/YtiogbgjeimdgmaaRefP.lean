/- The two memories and the two MMUs, made. -/
import Derived.Test.YtiogbgjeimdgmaaRefL
namespace Go.Proofs.Ytiogbgjeimdgmaa.RefWalk
open Go.RowKit Go.Proofs.Ytiogbgjeimdgmaa.Aid Go.Proofs.YtiogbgjeimdgmaaW.PrintWords Go.Proofs.YtiogbgjeimdgmaaW.PrintLast Go.Proofs.YtiogbgjeimdgmaaW.PrintMore
open Go.Proofs.Ytiogbgjeimdgmaa.MmuWalk (Chg R32 Flt fltV noF flt infoF Tabs row_ty own_keep two_ty box1 row_then foot mine MmuAt MStep NextRow mTy noT mnew_call mset_call malive_call ram_below1)
open Go.Proofs.Ytiogbgjeimdgmaa.RamWalk (Bytes leN own_cell putL RamAt new_nat load_n)
open Go.Proofs.Ytiogbgjeimdgmaa.TlbWalk (RefAt own_then own_val own_some dropP)
attribute [local go_sem] max2_int min2_int max_two min_two max_three min_three max_four min_four   -- for this text's walks alone
set_option linter.unusedVariables false
set_option linter.unusedSimpArgs false
/-- Two memories, the program's and the document's. -/
structure RR (w0 W : World) (g b c g' b' c' n : Nat) (l l' : List Int) : Prop where
  below : Below w0.heap.size w0 W
  m : RamAt W w0.heap.size g (.slice (some ⟨b, 0, none⟩) n c) l
  r : RRamAt W w0.heap.size g' (.slice (some ⟨b', 0, none⟩) n c') l'
  ne : b ≠ b'
theorem ty_cells {W : World} {a b : Nat} {x y : Array Value} {t u : TypeId} {c d : Nat × Nat} (ha : W.heap[a]? = some (.cells x t c)) (hb : W.heap[b]? = some (.cells y u d)) (h : t ≠ u) : a ≠ b := by
  rintro rfl
  rw [ha] at hb
  simp only [Option.some.injEq, Obj.cells.injEq] at hb
  exact h hb.2.1
theorem row_blk {W : World} {base b n c : Nat} {l : List Int} (h : W.ownsRow base 5 1 (.slice (some ⟨b, 0, none⟩) n c) l.length (nums .u8 l)) : ∃ cur, W.heap[b]? = some (.cells cur 5 (0, 0)) := by
  rcases h.2 with ⟨hv, _⟩ | ⟨b', c', cur, hv, _, hh, _⟩
  · simp at hv
  · simp only [Value.slice.injEq, Option.some.injEq, Addr.mk.injEq, and_true, true_and] at hv
    obtain ⟨rfl, _⟩ := hv
    exact ⟨_, hh⟩
theorem rr_new {w0 w1 w2 : World} {g b g' b' n : Nat} {l l' : List Int} (b1 : Below w0.heap.size w0 w1) (h1 : RamAt w1 w0.heap.size g (.slice (some ⟨b, 0, none⟩) n n) l) (b2 : Below w1.heap.size w1 w2) (h2 : RRamAt w2 w1.heap.size g' (.slice (some ⟨b', 0, none⟩) n n) l') :
    RR w0 w2 g b n g' b' n n l l' := by
  refine ⟨below_step b1 b2, h1.then b2, h2.lower b1.size, fun e => ?_⟩
  subst e
  have e1 := own_base h2.2.2.1 b rfl
  obtain ⟨cur, hh⟩ := row_blk h1.2.2.1
  have := (Array.getElem?_eq_some_iff.1 hh).1
  omega
theorem rr_load {w0 W W' : World} {g b c g' b' c' n : Nat} {l l' ys : List Int} (h : RR w0 W g b c g' b' c' n l l') (hm : RamAt W' w0.heap.size g (.slice (some ⟨b, 0, none⟩) n c) ys) (k : W.grownBy W' (some b)) : RR w0 W' g b c g' b' c' n ys l' := by
  obtain ⟨h1, h2, h3, h4⟩ := h
  refine ⟨ram_below1 h1 h2 k, hm, h3.kept k (fun e => ?_) (fun e => ?_), h4⟩
  · simp only [Option.some.injEq] at e
    obtain ⟨cur, hh⟩ := row_blk h2.2.2.1
    exact ty_cells h3.1 hh (by decide) e
  · simp only [Value.ownBlock, Option.some.injEq] at e
    exact h4 e.symm
theorem rr_rload {w0 W W' : World} {g b c g' b' c' n : Nat} {l l' ys : List Int} (h : RR w0 W g b c g' b' c' n l l') (hr : RRamAt W' w0.heap.size g' (.slice (some ⟨b', 0, none⟩) n c') ys) (k : W.grownBy W' (some b')) : RR w0 W' g b c g' b' c' n l ys := by
  obtain ⟨h1, h2, h3, h4⟩ := h
  have hb' := own_base h3.2.2.1 b' rfl
  refine ⟨⟨k.os.trans h1.os, k.tape.trans h1.tape, k.output.trans h1.output, Nat.le_trans h1.size k.size, fun i hi => (k.block i (Nat.lt_of_lt_of_le hi h1.size) (fun e => by simp only [Option.some.injEq] at e; omega)).trans (h1.block i hi)⟩, h2.kept k (fun e => ?_) (fun e => ?_), hr, h4⟩
  · simp only [Option.some.injEq] at e
    obtain ⟨cur, hh⟩ := row_blk h3.2.2.1
    exact ty_cells h2.1 hh (by decide) e
  · simp only [Value.ownBlock, Option.some.injEq] at e
    exact h4 e
theorem du_new {w0 W : World} {L R : LocR} {T T' : Tabs} {pl : Bool} {l : List Int} (b : Below w0.heap.size w0 W) (m : MmuAt W w0.heap.size L (.slice none 0 0) T [] l) (r : RmAt W w0.heap.size R (.slice none 0 0) (.slice none 0 0) T' pl [] l) (hb : L.b ≠ R.b) : DU w0 w0 (fun _ => False) W L R (.slice none 0 0) (.slice none 0 0) (.slice none 0 0) T [] l T' pl [] l := by
  refine ⟨b, m, r, fun i f q => ?_, fun i hi => hi.elim⟩
  obtain ⟨c1, b1⟩ := row_blk m.ram.2.2.1
  obtain ⟨c2, b2⟩ := row_blk r.ram.2.2.1
  have m1 := m.blk
  have m2 := m.tlb.1
  have m3 := m.ram.1
  have r1 := r.blk
  have r2 := r.tlb.1
  have r3 := r.ram.1
  rcases f with (rfl | rfl | rfl | f) | rfl <;> first | (simp [Value.ownBlock] at f; done) | skip
  all_goals rcases q with (q | q | q | q | q) | q <;> first | (simp [Value.ownBlock] at q; done) | (exact hb q) | skip
  · exact ty_cells m1 r1 (by decide) q
  · exact ty_cells m1 r2 (by decide) q
  · exact ty_cells m1 b2 (by decide) q
  · exact ty_cells m1 r3 (by decide) q
  · exact ty_cells m2 r1 (by decide) q
  · exact ty_cells m2 r2 (by decide) q
  · exact ty_cells m2 b2 (by decide) q
  · exact ty_cells m2 r3 (by decide) q
  · exact ty_cells b1 r1 (by decide) q
  · exact ty_cells b1 r2 (by decide) q
  · exact ty_cells b1 r3 (by decide) q
  · exact ty_cells m3 r1 (by decide) q
  · exact ty_cells m3 r2 (by decide) q
  · exact ty_cells m3 b2 (by decide) q
  · exact ty_cells m3 r3 (by decide) q
end Go.Proofs.Ytiogbgjeimdgmaa.RefWalk
