/- FetchRuns: the plain law: a queue holds what stands at its address and behind it. -/
import Derived.Test.YtiogbgjeimdgmaaFetH
namespace Go.Proofs.Ytiogbgjeimdgmaa.MmuWalk
set_option linter.unusedVariables false
set_option linter.unusedSimpArgs false
/-- What stands j bytes behind an address. -/
def pk (T : Tabs) (ps : List (Int × Int)) (l : List Int) (pc : Int) (u : Bool) (j : Nat) : Int × Flt := peekF T ps l ((pc + j) % 4294967296) u
structure InvQ (T : Tabs) (ps : List (Int × Int)) (l : List Int) (pc : Int) (u : Bool) (pq : Int) (bs : List Int) (f : Flt) : Prop where
  at_ : pq = (pc + bs.length) % 4294967296
  len : bs.length ≤ 16
  byte : ∀ j, j < bs.length → (pk T ps l pc u j).2.1 = 0 ∧ (pk T ps l pc u j).1 = bs.getD j 0
  flt : f.1 ≠ 0 → f = (pk T ps l pc u bs.length).2
  good : goodF f
theorem InvQ.new {T : Tabs} {ps : List (Int × Int)} {l : List Int} {pc : Int} {u : Bool} (h : R32 pc) : InvQ T ps l pc u pc [] noF :=
  ⟨by obtain ⟨h1, h2⟩ := h; simp only [List.length_nil]; omega, Nat.zero_le _, fun j hj => absurd hj (Nat.not_lt_zero _), fun c => absurd rfl c, fun _ => rfl⟩
theorem getD_snoc0 (bs : List Int) (x : Int) (j : Nat) : (bs ++ [x]).getD j 0 = if j = bs.length then x else bs.getD j 0 := by
  rw [List.getD_eq_getElem?_getD, List.getD_eq_getElem?_getD, List.getElem?_append]
  split
  · rw [if_neg (by omega)]
  · split
    · rename_i h1 h2; subst h2; simp
    · rename_i h1 h2
      rw [List.getElem?_eq_none (by simp; omega), List.getElem?_eq_none (by omega)]
theorem InvQ.cyc {T : Tabs} {ps : List (Int × Int)} {l : List Int} {pc : Int} {u : Bool} {pq : Int} {bs : List Int} {f : Flt} (h : InvQ T ps l pc u pq bs f) : InvQ T ps l pc u (cycF T ps l pq u bs f).1 (cycF T ps l pq u bs f).2.1 (cycF T ps l pq u bs f).2.2 := by
  obtain ⟨h1, h2, h3, h4, h5⟩ := h
  have e : peekF T ps l pq u = pk T ps l pc u bs.length := by rw [h1]; rfl
  have hg : goodF (pk T ps l pc u bs.length).2 := peekF_good
  unfold cycF
  rw [e]
  split
  · exact ⟨h1, h2, h3, h4, h5⟩
  · rename_i hs
    split
    · exact ⟨h1, h2, h3, fun _ => rfl, hg⟩
    · rename_i hk
      have hk : (pk T ps l pc u bs.length).2.1 = 0 := Classical.not_not.1 hk
      have hf : f.1 = 0 := Classical.not_not.1 (fun c => hs (.inr c))
      refine ⟨?_, ?_, fun j hj => ?_, fun c => absurd hf c, h5⟩
      · simp only [List.length_append, List.length_cons, List.length_nil]
        rw [h1]
        omega
      · simp only [List.length_append, List.length_cons, List.length_nil]
        omega
      · simp only [List.length_append, List.length_cons, List.length_nil] at hj
        rw [getD_snoc0]
        split
        · rename_i e2; subst e2; exact ⟨hk, rfl⟩
        · exact h3 j (by omega)
/-- After i cycles: i bytes, or no more. -/
def Far (i : Nat) (bs : List Int) (f : Flt) : Prop := i ≤ bs.length ∨ 16 ≤ bs.length ∨ f.1 ≠ 0
theorem Far.cyc {T : Tabs} {ps : List (Int × Int)} {l : List Int} {u : Bool} {pq : Int} {bs : List Int} {f : Flt} {i : Nat} (h : Far i bs f) : Far (i + 1) (cycF T ps l pq u bs f).2.1 (cycF T ps l pq u bs f).2.2 := by
  unfold cycF
  split
  · rename_i hs
    exact .inr hs
  · rename_i hs
    split
    · rename_i hk; exact .inr (.inr hk)
    · refine .inl ?_
      rcases h with h | h
      · simp only [List.length_append, List.length_cons, List.length_nil]; omega
      · exact absurd h hs
theorem InvQ.drop {T : Tabs} {ps : List (Int × Int)} {l : List Int} {pc : Int} {u : Bool} {pq : Int} {bs : List Int} {f : Flt} (h : InvQ T ps l pc u pq bs f) (n : Nat) (hn : n ≤ bs.length) : InvQ T ps l ((pc + n) % 4294967296) u pq (bs.drop n) f := by
  obtain ⟨h1, h2, h3, h4, h5⟩ := h
  have e : ∀ j, pk T ps l ((pc + n) % 4294967296) u j = pk T ps l pc u (n + j) := fun j => by
    unfold pk
    rw [show ((pc + n) % 4294967296 + j) % 4294967296 = (pc + ((n + j : Nat) : Int)) % 4294967296 by omega]
  refine ⟨?_, ?_, fun j hj => ?_, fun c => ?_, h5⟩
  · rw [List.length_drop, h1]; omega
  · rw [List.length_drop]; omega
  · rw [List.length_drop] at hj
    rw [e, List.getD_eq_getElem?_getD, List.getElem?_drop, ← List.getD_eq_getElem?_getD]
    exact h3 _ (by omega)
  · rw [e, List.length_drop, show n + (bs.length - n) = bs.length by omega]
    exact h4 c
/-- Find's answer, as Peek's. -/
theorem pk_find {T : Tabs} {ps : List (Int × Int)} {l : List Int} {pc : Int} {u : Bool} {j : Nat} (h : (pk T ps l pc u j).2.1 = 0) :
    (findF T ps l ((pc + j) % 4294967296) 1 u false).2 = noF ∧ (findF T ps l ((pc + j) % 4294967296) 1 u false).1 + 1 ≤ l.length ∧ l.getD (findF T ps l ((pc + j) % 4294967296) 1 u false).1.toNat 0 = (pk T ps l pc u j).1 := by
  unfold pk peekF at h ⊢
  split at h
  · rename_i hk; exact absurd h hk
  · rename_i hk
    have hk := Classical.not_not.1 hk
    obtain ⟨a, b⟩ := findF_fit hk
    rw [if_neg (fun c => c hk)]
    exact ⟨b, a, rfl⟩
theorem pk_find_bad {T : Tabs} {ps : List (Int × Int)} {l : List Int} {pc : Int} {u : Bool} {j : Nat} (h : (pk T ps l pc u j).2.1 ≠ 0) :
    (findF T ps l ((pc + j) % 4294967296) 1 u false).2 = (pk T ps l pc u j).2 := by
  unfold pk peekF at h ⊢
  split at h
  · rename_i hk; rw [if_pos hk]
  · exact absurd rfl h
theorem take_snoc0 (bs : List Int) (j : Nat) (h : j < bs.length) : bs.take (j + 1) = bs.take j ++ [bs.getD j 0] := by
  rw [List.take_add_one, List.getElem?_eq_getElem h, List.getD_eq_getElem?_getD, List.getElem?_eq_getElem h]
  rfl
end Go.Proofs.Ytiogbgjeimdgmaa.MmuWalk
