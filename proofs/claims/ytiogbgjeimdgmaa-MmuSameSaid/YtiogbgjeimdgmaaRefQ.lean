/- Where what is buffered stands in the memory, marks with a buffer and without leave the same memory. Plain. -/
import Derived.Test.YtiogbgjeimdgmaaGMmd
namespace Go.Proofs.Ytiogbgjeimdgmaa.MmuWalk
open Go.RowKit Go.Proofs.Ytiogbgjeimdgmaa.Aid Go.Proofs.YtiogbgjeimdgmaaW.PrintWords Go.Proofs.YtiogbgjeimdgmaaW.PrintLast Go.Proofs.YtiogbgjeimdgmaaW.PrintMore
open Go.Proofs.Ytiogbgjeimdgmaa.RamWalk (RamAt Bytes leN putL putL_length)
open Go.Proofs.Ytiogbgjeimdgmaa.TlbWalk (TlbAt Kept2 putP dropP posP posP_page entP nil2 own_some own_val own_then)
set_option linter.unusedVariables false
set_option linter.unusedSimpArgs false
def or4 (x : Int) : Int := if x / 4 % 2 = 1 then x else x + 4
theorem drop_cons (l : List Int) (i : Nat) (hi : i < l.length) : l.drop i = l.getD i 0 :: l.drop (i + 1) := by
  rw [List.drop_eq_getElem_cons hi, List.getD_eq_getElem?_getD, List.getElem?_eq_getElem hi]; rfl
theorem take4 (l : List Int) (a : Nat) (h : a + 4 ≤ l.length) : (l.drop a).take 4 = [l.getD a 0, l.getD (a + 1) 0, l.getD (a + 2) 0, l.getD (a + 3) 0] := by
  rw [drop_cons l a (by omega), drop_cons l (a + 1) (by omega), drop_cons l (a + 1 + 1) (by omega), drop_cons l (a + 1 + 1 + 1) (by omega)]
  rfl
theorem set_self (l : List Int) (i : Nat) : l.set i (l.getD i 0) = l := by
  by_cases hi : i < l.length
  · rw [List.getD_eq_getElem?_getD, List.getElem?_eq_getElem hi]
    exact List.set_getElem_self hi
  · exact List.set_eq_of_length_le (by omega)
theorem byte_at {l : List Int} (hb : Bytes l) (i : Nat) : 0 ≤ l.getD i 0 ∧ l.getD i 0 < 256 := by
  by_cases hi : i < l.length
  · rw [List.getD_eq_getElem?_getD, List.getElem?_eq_getElem hi]
    exact hb _ (List.getElem_mem hi)
  · rw [List.getD_eq_getElem?_getD, List.getElem?_eq_none (by omega)]
    exact ⟨by decide, by decide⟩
theorem le4 (l : List Int) (a : Nat) (h : a + 4 ≤ l.length) : leN ((l.drop a).take 4) = l.getD a 0 + 256 * (l.getD (a + 1) 0 + 256 * (l.getD (a + 2) 0 + 256 * l.getD (a + 3) 0)) := by
  rw [take4 l a h]
  unfold leN leN leN leN leN
  omega
theorem wr_byte {l : List Int} (hb : Bytes l) (a : Nat) (h : a + 4 ≤ l.length) : wrE (leN ((l.drop a).take 4)) = decide (l.getD (a + 3) 0 / 4 % 2 = 1) := by
  rw [le4 l a h]
  have h0 := byte_at hb a
  have h1 := byte_at hb (a + 1)
  have h2 := byte_at hb (a + 2)
  have h3 := byte_at hb (a + 3)
  unfold wrE
  generalize l.getD a 0 = b0 at *
  generalize l.getD (a + 1) 0 = b1 at *
  generalize l.getD (a + 2) 0 = b2 at *
  generalize l.getD (a + 3) 0 = b3 at *
  congr 1
  exact propext ⟨fun h => by omega, fun h => by omega⟩
theorem put_or {l : List Int} (hb : Bytes l) (a : Nat) (h : a + 4 ≤ l.length) : putL l a (orM (leN ((l.drop a).take 4))) 4 = l.set (a + 3) (or4 (l.getD (a + 3) 0)) := by
  have hw := wr_byte hb a h
  have h0 := byte_at hb a
  have h1 := byte_at hb (a + 1)
  have h2 := byte_at hb (a + 2)
  have h3 := byte_at hb (a + 3)
  have e0 : orM (leN ((l.drop a).take 4)) = l.getD a 0 + 256 * (l.getD (a + 1) 0 + 256 * (l.getD (a + 2) 0 + 256 * or4 (l.getD (a + 3) 0))) := by
    unfold orM or4
    rw [hw, le4 l a h]
    by_cases hc : l.getD (a + 3) 0 / 4 % 2 = 1
    · rw [if_pos (decide_eq_true hc), if_pos hc]
    · rw [if_neg (by rw [decide_eq_true_eq]; exact hc), if_neg hc]; omega
  have h4 : 0 ≤ or4 (l.getD (a + 3) 0) ∧ or4 (l.getD (a + 3) 0) < 256 := by unfold or4; split <;> omega
  rw [e0]
  generalize or4 (l.getD (a + 3) 0) = q at *
  have s0 : ∀ x, x = l.getD a 0 → l.set a x = l := fun x hx => by rw [hx]; exact set_self l a
  have s1 : ∀ x, x = l.getD (a + 1) 0 → l.set (a + 1) x = l := fun x hx => by rw [hx]; exact set_self l (a + 1)
  have s2 : ∀ x, x = l.getD (a + 2) 0 → l.set (a + 2) x = l := fun x hx => by rw [hx]; exact set_self l (a + 2)
  show ((((l.set (a + 0) _).set (a + 1) _).set (a + 2) _).set (a + 3) _) = _
  generalize l.getD a 0 = b0 at *
  generalize l.getD (a + 1) 0 = b1 at *
  generalize l.getD (a + 2) 0 = b2 at *
  rw [Nat.add_zero, s0 _ (by show _ / 2 ^ (8 * 0) % 256 = _; omega), s1 _ (by show _ / 2 ^ (8 * 1) % 256 = _; omega), s2 _ (by show _ / 2 ^ (8 * 2) % 256 = _; omega)]
  congr 1
  show _ / 2 ^ (8 * 3) % 256 = _
  omega
theorem memMark_set (T : Tabs) {l : List Int} (hb : Bytes l) (va : Int) (h0 : 0 ≤ atE T va) : memMark T l va = if offE T va = true then l else if atE T va + 4 ≤ l.length then l.set ((atE T va).toNat + 3) (or4 (l.getD ((atE T va).toNat + 3) 0)) else l := by
  unfold memMark
  split
  · rfl
  · split
    · rename_i h; exact put_or hb _ (by omega)
    · rfl
/-- A page's entry is marked, or there is none. -/
def Wr (T : Tabs) (l : List Int) (va : Int) : Prop := offE T va = true ∨ ¬ (atE T va + 4 ≤ l.length) ∨ l.getD ((atE T va).toNat + 3) 0 / 4 % 2 = 1
theorem at0 (T : Tabs) (va : Int) : 0 ≤ atE T va := by unfold atE; omega
theorem Wr.mark {T : Tabs} {l : List Int} (hb : Bytes l) {va : Int} (h : Wr T l va) : memMark T l va = l := by
  rw [memMark_set T hb va (at0 T va)]
  rcases h with h | h | h
  · rw [if_pos h]
  · split
    · rfl
    · first | rfl | rw [if_neg h]
  · split
    · rfl
    · split
      · have : or4 (l.getD ((atE T va).toNat + 3) 0) = l.getD ((atE T va).toNat + 3) 0 := by unfold or4; rw [if_pos h]
        rw [this]; exact set_self l _
      · rfl
theorem or4_odd (x : Int) : or4 x / 4 % 2 = 1 := by unfold or4; split <;> omega
theorem getD_set (l : List Int) (i j : Nat) (x : Int) : (l.set i x).getD j 0 = if i = j ∧ i < l.length then x else l.getD j 0 := by
  rw [List.getD_eq_getElem?_getD, List.getElem?_set, List.getD_eq_getElem?_getD]
  by_cases h : i = j
  · subst h
    by_cases hi : i < l.length
    · simp [hi]
    · simp [hi]
  · simp [h]
theorem Wr.keep {T : Tabs} {l : List Int} (hb : Bytes l) {va : Int} (vb : Int) (h : Wr T l va) : Wr T (memMark T l vb) va := by
  unfold Wr
  rw [memMark_length]
  rcases h with h | h | h
  · exact .inl h
  · exact .inr (.inl h)
  · refine .inr (.inr ?_)
    rw [memMark_set T hb vb (at0 T vb)]
    split
    · exact h
    · split
      · rw [getD_set]
        split
        · exact or4_odd _
        · exact h
      · exact h
theorem page_same (T : Tabs) {va vb : Int} (h : va / 512 = vb / 512) : offE T va = offE T vb ∧ atE T va = atE T vb := by
  have e1 : pageE va = pageE vb := by unfold pageE; omega
  have e2 : lenT T va = lenT T vb := by unfold lenT; rw [show va / 2147483648 = vb / 2147483648 by omega]
  have e3 : baseT T va = baseT T vb := by unfold baseT; rw [show va / 2147483648 = vb / 2147483648 by omega]
  exact ⟨by unfold offE; rw [e1, e2, show va / 1073741824 % 2 = vb / 1073741824 % 2 by omega], by unfold atE; rw [e1, e3]⟩
theorem Wr.now {T : Tabs} {l : List Int} (hb : Bytes l) {va vb : Int} (h : va / 512 = vb / 512) : Wr T (memMark T l va) vb := by
  obtain ⟨e1, e2⟩ := page_same T h
  unfold Wr
  rw [memMark_length, memMark_set T hb va (at0 T va), ← e1, ← e2]
  split
  · rename_i c; exact .inl c
  · split
    · rename_i c
      refine .inr (.inr ?_)
      rw [getD_set, if_pos ⟨rfl, by have := at0 T va; omega⟩]
      exact or4_odd _
    · rename_i c; exact .inr (.inl c)
theorem mmk_bytes (T : Tabs) {l : List Int} (hb : Bytes l) (va : Int) : Bytes (memMark T l va) := by
  rw [memMark_set T hb va (at0 T va)]
  split
  · exact hb
  · split
    · intro x hx
      rcases List.mem_or_eq_of_mem_set hx with hx | rfl
      · exact hb x hx
      · have := byte_at hb ((atE T va).toNat + 3); unfold or4; split <;> omega
    · exact hb
def InvW (T : Tabs) (l : List Int) (ps : List (Int × Int)) : Prop := ∀ p ∈ ps, wrE p.2 = true → ∀ va, va / 512 = p.1 → Wr T l va
theorem Cons.inv {T : Tabs} {l : List Int} {ps : List (Int × Int)} (hb : Bytes l) (h : Cons T l ps) : InvW T l ps := fun p hp hw va hv => by
  have e := h p hp va false hv
  unfold memF at e
  unfold Wr
  split at e
  · rename_i c; exact .inl c
  · split at e
    · rename_i c
      refine .inr (.inr ?_)
      have e := (Prod.mk.inj e).1
      rw [← e, wr_byte hb _ (by have := at0 T va; omega)] at hw
      exact of_decide_eq_true hw
    · rename_i c; exact .inr (.inl c)
theorem posP_nil (page : Int) : ¬ posP page [] < ([] : List (Int × Int)).length := by simp
theorem markP_nil (T : Tabs) (va : Int) : markP T [] va = [] := by
  unfold markP
  split
  · rfl
  · rw [if_neg (posP_nil _)]
theorem markL_nil (T : Tabs) (l : List Int) (va : Int) : markL T [] l va = if T.men = 0 then l else memMark T l va := by
  unfold markL
  split
  · rfl
  · rw [if_neg (posP_nil _)]
theorem ent_mem {ps : List (Int × Int)} {page : Int} (h : posP page ps < ps.length) : ∃ p ∈ ps, p.1 = page ∧ p.2 = entP page ps := by
  refine ⟨ps.getD (posP page ps) nil2, ?_, posP_page page ps h, ?_⟩
  · rw [List.getD_eq_getElem?_getD, List.getElem?_eq_getElem h]; exact List.getElem_mem h
  · unfold entP; rw [if_pos h]
theorem mark_step {T : Tabs} {l : List Int} {ps : List (Int × Int)} (hb : Bytes l) (h : InvW T l ps) (va : Int) : markL T ps l va = markL T [] l va ∧ InvW T (markL T ps l va) (markP T ps va) ∧ Bytes (markL T ps l va) := by
  rw [markL_nil]
  unfold markL markP
  by_cases hm : T.men = 0
  · simp only [if_pos hm]
    exact ⟨trivial, h, hb⟩
  · simp only [if_neg hm]
    by_cases hp : posP (va / 512) ps < ps.length
    · obtain ⟨p, hpm, hp1, hp2⟩ := ent_mem hp
      simp only [if_pos hp]
      by_cases hw : wrE (entP (va / 512) ps) = true
      · simp only [if_pos hw]
        refine ⟨((h p hpm (by rw [hp2]; exact hw) va hp1.symm).mark hb).symm, h, hb⟩
      · simp only [if_neg hw]
        refine ⟨by trivial, fun q hq hwq vb hvb => ?_, mmk_bytes T hb va⟩
        unfold putP at hq
        rw [if_pos hp] at hq
        rcases List.mem_or_eq_of_mem_set hq with hq | rfl
        · exact (h q hq hwq vb hvb).keep hb va
        · exact Wr.now hb hvb.symm
    · simp only [if_neg hp]
      exact ⟨by trivial, fun q hq hwq vb hvb => (h q hq hwq vb hvb).keep hb va, mmk_bytes T hb va⟩
theorem marks_same (T : Tabs) : ∀ (xs : List Pc) (ps : List (Int × Int)) (l : List Int), Bytes l → InvW T l ps → (marks T xs ps l).2 = (marks T xs [] l).2 ∧ (marks T xs [] l).1 = []
  | [], ps, l, _, _ => ⟨rfl, rfl⟩
  | p :: xs, ps, l, hb, h => by
    obtain ⟨e, h', hb'⟩ := mark_step hb h p.1
    have i1 := marks_same T xs (markP T ps p.1) (markL T ps l p.1) hb' h'
    have u1 : marks T (p :: xs) ps l = marks T xs (markP T ps p.1) (markL T ps l p.1) := rfl
    have u2 : marks T (p :: xs) [] l = marks T xs (markP T [] p.1) (markL T [] l p.1) := rfl
    rw [u1, u2, markP_nil, ← e]
    exact i1
theorem store_same (T : Tabs) (xs : List Pc) (fk : Int) (ps : List (Int × Int)) (l bs : List Int) (hb : Bytes l) (h : Cons T l ps) : storeL T xs fk [] l bs = storeL T xs fk ps l bs ∧ storeP T xs fk [] l = [] := by
  have m := marks_same T xs ps l hb (h.inv hb)
  unfold storeL storeP
  rw [m.1, m.2]
  exact ⟨rfl, by split <;> rfl⟩
theorem Pcs.nokeep {T : Tabs} {l : List Int} {u wr : Bool} {ps : List (Int × Int)} {va n : Int} {xs : List Pc} {f : Flt} {ps' : List (Int × Int)} (h : Pcs T l u wr false ps va n xs f ps') : ps' = ps := by
  have e : ∀ ps va, findP T ps l va u wr false = ps := fun ps va => by
    unfold findP entryP; simp
  induction h with
  | done _ => rfl
  | stop _ _ => exact e _ _
  | more _ _ _ ih => rw [ih, e]
end Go.Proofs.Ytiogbgjeimdgmaa.MmuWalk
