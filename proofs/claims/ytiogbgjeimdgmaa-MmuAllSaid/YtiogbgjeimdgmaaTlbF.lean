/- What Put and Drop make of a buffer's pages, in plain lists; camshaftref04.Same of two lists that are one, walked. -/
import Derived.Test.YtiogbgjeimdgmaaTlbE
namespace Go.Proofs.Ytiogbgjeimdgmaa.TlbWalk
open Go.RowKit Go.Proofs.Ytiogbgjeimdgmaa.Aid Go.Proofs.YtiogbgjeimdgmaaW.PrintWords Go.Proofs.YtiogbgjeimdgmaaW.PrintLast Go.Proofs.YtiogbgjeimdgmaaW.PrintMore
attribute [local go_sem] max2_int min2_int max_two min_two max_three min_three max_four min_four   -- for this text's walks alone
set_option linter.unusedVariables false
set_option linter.unusedSimpArgs false

theorem own_none {w : World} {base e s n : Nat} {o : Value} {xs : List Value} (_ : w.ownsRow base e s o n xs) : o.ownBlock = none ∨ o.ownBlock ≠ none := by
  cases o.ownBlock with
  | none => exact .inl rfl
  | some b => exact .inr (by simp)
theorem own_then {w w' : World} {base e s n : Nat} {o : Value} {xs : List Value} (h : w.ownsRow base e s o n xs) (hb : Below w.heap.size w w') : w'.ownsRow base e s o n xs :=
  own_other h (row := none) ⟨hb.os, hb.tape, hb.output, hb.size, fun k hk _ => hb.block k hk⟩ (own_none h)
theorem own_kept2 {w w' : World} {base e s n g : Nat} {o : Value} {xs : List Value} {row : Option Nat} (h : w.ownsRow base e s o n xs) (k : Kept2 w w' g row) (h1 : o.ownBlock ≠ some g) (h2 : o.ownBlock = none ∨ o.ownBlock ≠ row) : w'.ownsRow base e s o n xs := by
  refine ⟨h.1, ?_⟩
  rcases h.2 with h' | ⟨b, c, cur, rfl, hb, hh, r⟩
  · exact .inl h'
  · refine .inr ⟨b, c, cur, rfl, hb, ?_, r⟩
    refine (k.block b (Array.getElem?_eq_some_iff.1 hh).1 (fun e => h1 (by rw [e]; rfl)) ?_).trans hh
    rcases h2 with h2 | h2
    · simp [Value.ownBlock] at h2
    · exact h2
theorem own_not_g {w : World} {base base' s n g : Nat} {o v : Value} {xs : List Value} {ps : List (Int × Int)} (h : w.ownsRow base 23 s o n xs) (t : TlbAt w base' g v ps) : o.ownBlock ≠ some g := by
  intro e
  rcases h.2 with ⟨rfl, _⟩ | ⟨b, c, cur, rfl, hb, hh, r⟩
  · simp [Value.ownBlock] at e
  · simp only [Value.ownBlock, Option.some.injEq] at e
    subst e
    rw [t.1] at hh
    simp at hh
/-- A row of numbers stays while a buffer is put to. -/
theorem own_tlb {w w' : World} {base base' n g : Nat} {o v : Value} {xs : List Value} {ps : List (Int × Int)} (h : w.ownsRow base 23 1 o n xs) (t : TlbAt w base' g v ps) (k : Kept2 w w' g v.ownBlock) : w'.ownsRow base 23 1 o n xs :=
  own_kept2 h k (own_not_g h t) (own_type_ne h t.own (by decide))

theorem mem_getD (ps : List (Int × Int)) (j : Nat) (hj : j < ps.length) : ps.getD j nil2 ∈ ps := by
  rw [List.getD_eq_getElem?_getD, List.getElem?_eq_getElem hj]
  exact List.getElem_mem hj
theorem posP_not (p : Int) : ∀ ps : List (Int × Int), (∀ q ∈ ps, q.1 ≠ p) → posP p ps = ps.length
  | [], _ => rfl
  | q :: ps, h => by
    unfold posP
    rw [if_neg (h q List.mem_cons_self), posP_not p ps (fun x hx => h x (List.mem_cons_of_mem _ hx)), List.length_cons]
theorem posP_mem (p : Int) : ∀ ps : List (Int × Int), (∃ q ∈ ps, q.1 = p) → posP p ps < ps.length
  | [], ⟨q, h, _⟩ => by simp at h
  | q :: ps, ⟨x, hx, he⟩ => by
    unfold posP
    by_cases hq : q.1 = p
    · rw [if_pos hq]; simp
    · rw [if_neg hq]
      have := posP_mem p ps ⟨x, (List.mem_cons.1 hx).resolve_left (fun e => hq (e ▸ he)), he⟩
      rw [List.length_cons]; omega
theorem mem_set_or {ps : List (Int × Int)} {i : Nat} {a q : Int × Int} (h : q ∈ ps.set i a) : q ∈ ps ∨ q = a := List.mem_or_eq_of_mem_set h
theorem putP_mem (page e : Int) (ps : List (Int × Int)) (q : Int × Int) (h : q ∈ putP page e ps) : q ∈ ps ∨ q = (page, e) := by
  unfold putP at h
  split at h
  · exact List.mem_or_eq_of_mem_set h
  · rcases List.mem_append.1 h with h | h
    · split at h
      · exact .inl (List.mem_of_mem_drop h)
      · exact .inl h
    · exact .inr (by simpa using h)
theorem putP_ne (page e : Int) (ps : List (Int × Int)) : 0 < (putP page e ps).length := by
  unfold putP
  split
  · rw [List.length_set]; omega
  · rw [List.length_append]; simp
theorem set_same_fst (ps : List (Int × Int)) (j : Nat) (hj : j < ps.length) (e : Int) : (ps.set j ((ps.getD j nil2).1, e)).map Prod.fst = ps.map Prod.fst := by
  rw [List.map_set]
  apply List.ext_getElem?
  intro i
  rw [List.getElem?_set, List.length_map]
  by_cases hij : j = i
  · subst hij
    rw [if_pos rfl, if_pos hj, List.getElem?_map, List.getElem?_eq_getElem hj, List.getD_eq_getElem?_getD, List.getElem?_eq_getElem hj]
    rfl
  · rw [if_neg hij]
theorem putP_nodup (page e : Int) (ps : List (Int × Int)) (h : (ps.map Prod.fst).Nodup) : ((putP page e ps).map Prod.fst).Nodup := by
  unfold putP
  by_cases hp : posP page ps < ps.length
  · rw [if_pos hp]
    have := set_same_fst ps (posP page ps) hp e
    rw [posP_page page ps hp] at this
    rw [this]; exact h
  · rw [if_neg hp]
    have hn : ∀ x ∈ ps.map Prod.fst, x ≠ page := by
      intro x hx hxe
      obtain ⟨q, hq, rfl⟩ := List.mem_map.1 hx
      exact hp (posP_mem page ps ⟨q, hq, hxe⟩)
    rw [List.map_append, List.nodup_append]
    refine ⟨?_, by simp, ?_⟩
    · split
      · rw [List.map_drop]; exact h.sublist (List.drop_sublist _ _)
      · exact h
    · intro a ha b hb
      have hb' : b = page := by simpa using hb
      subst hb'
      split at ha
      · rw [List.map_drop] at ha; exact hn a (List.mem_of_mem_drop ha)
      · exact hn a ha
theorem pos_nodup (ps : List (Int × Int)) (h : (ps.map Prod.fst).Nodup) (j : Nat) (hj : j < ps.length) : posP (ps.getD j nil2).1 ps = j := by
  refine posP_at _ ps j hj rfl fun i hi he => ?_
  have hil : i < ps.length := by omega
  rw [List.getD_eq_getElem?_getD, List.getElem?_eq_getElem hil, List.getD_eq_getElem?_getD, List.getElem?_eq_getElem hj] at he
  have e1 : (ps.map Prod.fst)[i]'(by rw [List.length_map]; exact hil) = (ps.map Prod.fst)[j]'(by rw [List.length_map]; exact hj) := by
    rw [List.getElem_map, List.getElem_map]; exact he
  have := (List.getElem_inj h).1 e1
  omega

theorem same_call (w : World) (A0 A1 : Option Addr) (c0 c1 : Nat) (l : List Int) (hl : l.length ≤ 8) (h0 : ReadsInt w .u32 A0 l.length l) (h1 : ReadsInt w .u32 A1 l.length l) :
    Calls Try.prog 75 #[.slice A0 l.length c0, .slice A1 l.length c1] w fun e w' => e = .returned (.bool true) ∧ ∃ m, w' = w.drewN m := by
  have H0 := Aside0.mk h0
  have H1 := Aside0.mk h1
  clear h0 h1
  go_enter Try.func75, Try.ntmps75
  go_wp2
  go_loopw [13] (fun i wr => ∃ k : Nat, k ≤ l.length ∧ i = .int .i64 k ∧ ∃ m, wr = w.drewN m) (fun i _ => l.length - (intOf i).toNat)
  case atStart => exact ⟨0, Nat.zero_le _, rfl, 0, rfl⟩
  case round =>
    obtain ⟨k, hk, rfl, m, rfl⟩ := hrel
    by_cases hkn : k = l.length
    · go_wp2
      go_ret
      exact ⟨rfl, m, rfl⟩
    · obtain ⟨a0, rfl, hc0⟩ := H0.out.2.2 (by omega)
      obtain ⟨a1, rfl, hc1⟩ := H1.out.2.2 (by omega)
      have q0 := hc0 k (by omega)
      have q1 := hc1 k (by omega)
      clear hc0 hc1
      generalize l.getD k 0 = x at *
      have hk1 : (k : Int) < (l.length : Int) := by omega
      have hk2 : k < l.length := by omega
      go_wp2
      go_quiet (fail)
      go_wp2
      go_roundw
      case rel => exact ⟨k + 1, by omega, rfl, m + nq, rfl⟩
      case measure => simp [intOf]; omega
end Go.Proofs.Ytiogbgjeimdgmaa.TlbWalk
