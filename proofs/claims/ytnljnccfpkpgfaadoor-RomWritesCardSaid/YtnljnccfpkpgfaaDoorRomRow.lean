/- The laws' arguments, opened. -/
import Derived.Test.YtnljnccfpkpgfaaDoorRows
import Derived.Test.YtnljnccfpkpgfaaDoorRomG
import Derived.Deep.SlicePairs
import Derived.WalkKit
import Derived.ProofKit
import Derived.OpenShut
import Derived.Lay
namespace Go.Proofs.YtnljnccfpkpgfaaDoor.RomWalk
open Go.RowKit Go.Proofs.YtnljnccfpkpgfaaDoor.Aid Go.Proofs.YtnljnccfpkpgfaaDoorW.PrintWords Go.Proofs.YtnljnccfpkpgfaaDoorW.PrintLast Go.Proofs.YtnljnccfpkpgfaaDoorW.PrintMore
open Go.ChangeShapes Go.WideShapes Go.ChangeAt
set_option linter.unusedVariables false
/-- What the cards list. -/
def laid2 : List (String × DataW Unit) := [("unicode/utf8.acceptRanges", Rows.laid_unicode_utf8_acceptRanges), ("unicode/utf8.first", Rows.laid_unicode_utf8_first)]
theorem pick_list {P : Nat → ByteArray × Int → Prop} (n : Nat) (h : ∀ i, i < n → ∃ e, P i e) : ∃ l : Ents, l.length = n ∧ ∀ i, i < n → P i (l.getD i default) := by
  classical
  refine ⟨(List.range n).map fun i => if q : i < n then Classical.choose (h i q) else default, by simp, fun i hi => ?_⟩
  rw [List.getD_eq_getElem?_getD, List.getElem?_map, List.getElem?_range hi]
  simp only [Option.map_some, Option.getD_some]
  rw [dif_pos hi]
  exact Classical.choose_spec (h i hi)
theorem plain_addr {W : World} {x : Addr} {v : Value} (h : W.cell? x = some v) : x = ⟨x.block, x.off, none⟩ := by
  obtain ⟨b, off, sp⟩ := x
  unfold World.cell? at h
  split at h
  · split at h
    · cases h
    · rename_i q
      cases sp with
      | none => rfl
      | some _ => simp at q
  · cases h
theorem words_open {H : Type} {enc : TypeId × Value → H} {W : World} {fuel : Nat} {v : Value} {y : DataW H × List MemPlace} (h : DataW.trod enc Tryd.prog W 0 (fun _ => true) true fuel 22 [v] = some y) :
    ∃ A n c ws, v = .slice A n c ∧ ReadsInt W .u64 A n ws ∧ n ≤ c ∧ WR ws := by
  rcases open_ints Tryd.underlying22 Tryd.underlying48 (by kernel_rfl) h with ⟨hcs, _⟩ | ⟨x, l, c, zs, hcs, _, hl, hm, hz, _, hcell, hwz⟩
  · simp at hcs
    exact ⟨none, 0, 0, [], hcs, ReadsInt.nil _ _, Nat.le_refl 0, fun x hx => by cases hx⟩
  · simp at hcs
    have hz : zs.length = c := by simpa using hz
    refine ⟨some x, l, c, zs.take l, hcs, ⟨by rw [List.length_take]; omega, by unfold maxLen at hm; omega, fun _ => ⟨x, rfl, fun j hj => ?_⟩⟩, hl, fun q hq => ?_⟩
    · rw [hcell j (by omega)]
      simp [List.getD_eq_getElem?_getD, hj]
    · have := hwz q (List.mem_of_mem_take hq)
      simp [Lit.wf, IntKind.min, IntKind.max, IntKind.signed, IntKind.bits] at this
      omega
theorem ents_open {H : Type} {enc : TypeId × Value → H} {W : World} {fuel : Nat} {v : Value} {y : DataW H × List MemPlace} (h : DataW.trod enc Tryd.prog W 0 (fun _ => true) true fuel 23 [v] = some y) :
    ∃ B m d es, v = .slice B m d ∧ ReadsE W B m es ∧ m ≤ d ∧ EZ es := by
  rcases Go.Deep.open_slice Tryd.underlying23 h with ⟨hv, _⟩ | ⟨ad, len, cap, m', k, D, Pl, hv, hb, hl, hm', hmm, rfl, hx⟩
  · simp at hv
    exact ⟨none, 0, 0, [], hv, ReadsE.nil W, Nat.le_refl 0, fun e he => by cases he⟩
  · simp at hv
    have hlm : len ≤ m' := by rw [hmm]; split <;> omega
    have ce : Tryd.prog.cellsOf 38 = 2 := by kernel_rfl
    have c9 : Tryd.prog.cellsOf 9 = 1 := by kernel_rfl
    have c3 : Tryd.prog.cellsOf 3 = 1 := by kernel_rfl
    obtain ⟨es, he1, he2⟩ := pick_list (P := fun i e => e.1.size ≤ maxLen ∧ W.cell? (ad.add (i * 2)) = some (.string e.1) ∧ W.cell? (ad.add (i * 2 + 1)) = some (.int .i64 e.2)) len (fun i hi => by
      obtain ⟨cs', h1', h2'⟩ := hx i (by omega)
      rw [ce] at h1'
      obtain ⟨_, hlen, hcell⟩ := World.cells?_some h1'
      have e0 := hcell 0 (by decide)
      have e1 := hcell 1 (by decide)
      rw [add_add] at e0 e1
      match cs', hlen with
      | [a0, a1], _ =>
        obtain ⟨ys, m0, _, gx, _, hl2, hf⟩ := DataW.trod_struct Tryd.underlying38 h2'
        match ys, hl2 with
        | [y0, y1], _ =>
          have h0 := hf 0 _ rfl
          have h1 := hf 1 _ rfl
          simp [c9, c3] at h0 h1
          obtain ⟨s0, q0, _, w0⟩ := DataW.trod_string Tryd.underlying9 h0
          obtain ⟨n0, q1, _, _⟩ := DataW.trod_int Tryd.underlying3 h1
          simp at q0 q1
          subst q0 q1
          exact ⟨(s0, n0), w0, e0, e1⟩)
    refine ⟨some ad, len, cap, es, hv, ⟨he1, by unfold maxLen at hm'; omega, fun hp => ?_⟩, hl, fun e he => ?_⟩
    · have q := (he2 0 hp).2.1
      have q2 := plain_addr q
      have hadd : ∀ j, ad.add j = ⟨ad.block, ad.off + j, none⟩ := fun j => by
        have : ad.spot = none := by
          have := congrArg Addr.spot q2
          simpa [Addr.add] using this
        obtain ⟨b, off, sp⟩ := ad
        subst this
        simp [Addr.add]
      refine ⟨ad.block, ad.off, by have := hadd 0; simpa [Addr.add] using this, ?_, fun j hj => ?_⟩
      · have := World.block_lt_of_cell? W _ q
        simpa [Addr.add] using this
      · obtain ⟨_, x0, x1⟩ := he2 j hj
        rw [hadd] at x0 x1
        exact ⟨x0, by rw [Nat.add_assoc]; exact x1⟩
    · obtain ⟨i, hi, rfl⟩ := List.mem_iff_getElem.1 he
      have := (he2 i (by omega)).1
      simpa [List.getD_eq_getElem?_getD, List.getElem?_eq_getElem hi] using this
theorem rom_open {H : Type} {enc : TypeId × Value → H} {W : World} {v : Value} {d : DataW H} {p : List MemPlace} (hv : Value.okWide Tryd.prog W .any 0 25 v) (h : DataW.Trod enc Tryd.prog W 0 (fun _ => true) true 25 v d p) :
    ∃ A n c B m d ws es, v = .agg #[.slice A n c, .slice B m d] ∧ WR ws ∧ RomIn W A n c B m d ws es := by
  have c25 : Tryd.prog.cellsOf 25 = 2 := by kernel_rfl
  have c22 : Tryd.prog.cellsOf 22 = 1 := by kernel_rfl
  have c23 : Tryd.prog.cellsOf 23 = 1 := by kernel_rfl
  obtain ⟨cs, rfl, hsz⟩ := okWide_struct Tryd.underlying25 hv
  rw [c25] at hsz
  obtain ⟨cl⟩ := cs
  have hsz : cl.length = 2 := hsz
  match cl, hsz with
  | [k0, k1], _ =>
    obtain ⟨fu, hy⟩ := h
    simp only [Value.cells] at hy
    obtain ⟨ys, m0, _, gx, _, hl, hf⟩ := DataW.trod_struct Tryd.underlying25 hy
    match ys, hl with
    | [y0, y1], _ =>
      have h0 := hf 0 _ rfl
      have h1 := hf 1 _ rfl
      simp [c22, c23] at h0 h1
      obtain ⟨A, n, c, ws, rfl, hr, hc, hw⟩ := words_open h0
      obtain ⟨B, m, d', es, rfl, he, hd, hz⟩ := ents_open h1
      exact ⟨A, n, c, B, m, d', ws, es, rfl, hw, hr, hc, he, hd, hz⟩
end Go.Proofs.YtnljnccfpkpgfaaDoor.RomWalk
