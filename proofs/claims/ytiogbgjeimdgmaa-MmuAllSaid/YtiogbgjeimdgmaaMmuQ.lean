/- The MMU: where what is buffered is what stands in the memory, the buffer tells nothing. Plain. -/
import Derived.Test.YtiogbgjeimdgmaaMmuP
namespace Go.Proofs.Ytiogbgjeimdgmaa.MmuWalk
open Go.RowKit Go.Proofs.Ytiogbgjeimdgmaa.Aid Go.Proofs.YtiogbgjeimdgmaaW.PrintWords Go.Proofs.YtiogbgjeimdgmaaW.PrintLast Go.Proofs.YtiogbgjeimdgmaaW.PrintMore
open Go.Proofs.Ytiogbgjeimdgmaa.RamWalk (RamAt Bytes leN)
open Go.Proofs.Ytiogbgjeimdgmaa.TlbWalk (TlbAt Kept2 putP dropP posP posP_page entP nil2 own_some own_val own_then)
set_option linter.unusedVariables false
set_option linter.unusedSimpArgs false
theorem memF_page (T : Tabs) (l : List Int) (va vb : Int) (w1 w2 : Bool) (h : va / 512 = vb / 512) (h0 : (memF T l va w1).2.1 = 0) : memF T l vb w2 = memF T l va w1 ∧ (memF T l va w1).2 = noF := by
  have e1 : pageE va = pageE vb := by unfold pageE; omega
  have e2 : lenT T va = lenT T vb := by unfold lenT; rw [show va / 2147483648 = vb / 2147483648 by omega]
  have e3 : baseT T va = baseT T vb := by unfold baseT; rw [show va / 2147483648 = vb / 2147483648 by omega]
  have e4 : offE T va = offE T vb := by unfold offE; rw [e1, e2, show va / 1073741824 % 2 = vb / 1073741824 % 2 by omega]
  have e5 : atE T va = atE T vb := by unfold atE; rw [e1, e3]
  unfold memF at h0 ⊢
  rw [e4, e5] at h0 ⊢
  split at h0
  · cases (show (2 : Int) = 0 from h0)
  · rename_i hx
    rw [if_neg hx, if_neg hx]
    split at h0
    · rename_i hl
      rw [if_pos hl, if_pos hl]
      exact ⟨rfl, rfl⟩
    · cases (show (1 : Int) = 0 from h0)
/-- What is buffered stands in the memory. -/
def Cons (T : Tabs) (l : List Int) (ps : List (Int × Int)) : Prop := ∀ p ∈ ps, ∀ va wr, va / 512 = p.1 → memF T l va wr = (p.2, noF)
theorem Cons.nil (T : Tabs) (l : List Int) : Cons T l [] := fun p hp => by cases hp
theorem lookF_cons {T : Tabs} {l : List Int} {ps : List (Int × Int)} (h : Cons T l ps) (va : Int) (wr : Bool) : lookF T ps l va wr = memF T l va wr := by
  unfold lookF entP
  split
  · rename_i hp
    have e := posP_page (va / 512) ps hp
    have hm : ps.getD (posP (va / 512) ps) nil2 ∈ ps := by
      rw [List.getD_eq_getElem?_getD, List.getElem?_eq_getElem hp]; exact List.getElem_mem hp
    exact (h _ hm va wr e.symm).symm
  · rfl
theorem entryF_cons {T : Tabs} {l : List Int} {ps : List (Int × Int)} (h : Cons T l ps) (va : Int) (u wr : Bool) : entryF T ps l va u wr = entryF T [] l va u wr := by
  unfold entryF
  rw [lookF_cons h, lookF_cons (Cons.nil T l)]
theorem findF_cons {T : Tabs} {l : List Int} {ps : List (Int × Int)} (h : Cons T l ps) (va n : Int) (u wr : Bool) : findF T ps l va n u wr = findF T [] l va n u wr := by
  unfold findF
  rw [entryF_cons h]
theorem Cons.sub {T : Tabs} {l : List Int} {ps qs : List (Int × Int)} (h : Cons T l ps) (k : ∀ p ∈ qs, p ∈ ps) : Cons T l qs := fun p hp => h p (k p hp)
theorem Cons.drop {T : Tabs} {l : List Int} {ps : List (Int × Int)} (h : Cons T l ps) (page : Int) : Cons T l (dropP page ps) := by
  refine h.sub fun p hp => ?_
  unfold dropP at hp
  split at hp
  · rcases List.mem_append.1 hp with hp | hp
    · exact List.mem_of_mem_take hp
    · exact List.mem_of_mem_drop hp
  · exact hp
theorem Cons.put {T : Tabs} {l : List Int} {ps : List (Int × Int)} (h : Cons T l ps) (page e : Int) (k : ∀ va wr, va / 512 = page → memF T l va wr = (e, noF)) : Cons T l (putP page e ps) := by
  intro p hp
  unfold putP at hp
  split at hp
  · rcases List.mem_or_eq_of_mem_set hp with hp | rfl
    · exact h p hp
    · exact k
  · rcases List.mem_append.1 hp with hp | hp
    · refine h p ?_
      split at hp
      · exact List.mem_of_mem_drop hp
      · exact hp
    · rw [List.mem_singleton] at hp
      subst hp
      exact k
theorem Cons.find {T : Tabs} {l : List Int} {ps : List (Int × Int)} (h : Cons T l ps) (va : Int) (u wr keep : Bool) : Cons T l (findP T ps l va u wr keep) := by
  unfold findP entryP
  split
  · exact h
  · split
    · rename_i hc
      obtain ⟨h0, -, -⟩ := hc
      refine h.put _ _ fun vb w2 hb => ?_
      unfold entryF at h0 ⊢
      rw [lookF_cons h] at h0 ⊢
      by_cases c : (memF T l va wr).2.1 ≠ 0
      · rw [if_pos c] at h0; exact absurd h0 c
      · have c' : (memF T l va wr).2.1 = 0 := by simpa using c
        rw [if_neg c] at h0 ⊢
        by_cases c2 : mayE (memF T l va wr).1 u wr = false
        · rw [if_pos c2] at h0; cases (show (2 : Int) = 0 from h0)
        · rw [if_neg c2] at h0 ⊢
          by_cases c3 : isE (memF T l va wr).1 = false
          · rw [if_pos c3] at h0; cases (show (3 : Int) = 0 from h0)
          · rw [if_neg c3]
            obtain ⟨e1, e2⟩ := memF_page T l va vb wr w2 hb.symm c'
            rw [e1, ← e2]
    · exact h
/-- From any two buffers that tell the memory's entries: the same pieces, the same fault. -/
theorem Pcs.same {T : Tabs} {l : List Int} {u wr k1 : Bool} {ps : List (Int × Int)} {va n : Int} {xs : List Pc} {f : Flt} {ps' : List (Int × Int)} (h : Pcs T l u wr k1 ps va n xs f ps') : Cons T l ps → Cons T l ps' ∧ ∀ {k2 ps2 ys g ps2'}, Pcs T l u wr k2 ps2 va n ys g ps2' → Cons T l ps2 → ys = xs ∧ g = f := by
  induction h with
  | done h =>
    intro c
    refine ⟨c, fun k _ => ?_⟩
    cases k with
    | done _ => exact ⟨rfl, rfl⟩
    | stop h' _ => omega
    | more h' _ _ => omega
  | stop h hf =>
    intro c
    refine ⟨c.find _ _ _ _, fun k c2 => ?_⟩
    cases k with
    | done h' => omega
    | stop _ _ => exact ⟨rfl, by rw [findF_cons c, findF_cons c2]⟩
    | more _ hf' _ => rw [findF_cons c] at hf; rw [findF_cons c2] at hf'; exact absurd hf' hf
  | more h hf k ih =>
    intro c
    obtain ⟨c', ih2⟩ := ih (c.find _ _ _ _)
    refine ⟨c', fun k2 c2 => ?_⟩
    cases k2 with
    | done h' => omega
    | stop _ hf' => rw [findF_cons c] at hf; rw [findF_cons c2] at hf'; exact absurd hf hf'
    | more _ _ k3 =>
      obtain ⟨rfl, rfl⟩ := ih2 k3 (c2.find _ _ _ _)
      rw [findF_cons c, findF_cons c2]
      exact ⟨rfl, rfl⟩
end Go.Proofs.Ytiogbgjeimdgmaa.MmuWalk
