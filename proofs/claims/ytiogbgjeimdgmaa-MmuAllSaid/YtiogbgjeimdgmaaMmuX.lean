/- The MMU's mark: its contract; what Store does, in plain numbers. -/
import Derived.Test.YtiogbgjeimdgmaaMmuW
namespace Go.Proofs.Ytiogbgjeimdgmaa.MmuWalk
open Go.RowKit Go.Proofs.Ytiogbgjeimdgmaa.Aid Go.Proofs.YtiogbgjeimdgmaaW.PrintWords Go.Proofs.YtiogbgjeimdgmaaW.PrintLast Go.Proofs.YtiogbgjeimdgmaaW.PrintMore
open Go.Proofs.Ytiogbgjeimdgmaa.RamWalk (RamAt Bytes leN leN_bounds get_i get_bus_i put_i putL putL_length putL_bytes load_call)
open Go.Proofs.Ytiogbgjeimdgmaa.TlbWalk (TlbAt Kept2 putP dropP posP entP nil2 get_yes get_no put_call mem_getD putP_mem)
set_option linter.unusedVariables false
set_option linter.unusedSimpArgs false
theorem mark_call (w : World) (base : Nat) (L : Loc) (v : Value) (T : Tabs) (ps : List (Int × Int)) (l : List Int) (va : Int) (u wr : Bool) (hv : R32 va) (h : MmuAt w base L v T ps l) :
    Calls Try.prog 69 #[.pointer (some ⟨L.m, 0, none⟩), .agg #[.int .u32 va, .bool u, .bool wr]] w fun e w' => e = .returned (.tuple #[]) ∧ MStep w w' base L v T (markP T ps va) (markL T ps l va) := by
  unfold markP markL
  by_cases hm : T.men = 0
  · rw [if_pos hm, if_pos hm]
    exact mark_0 w base L v T ps l va u wr h hm
  · have hm' : (T.men == 0) = false := beq_eq_false_iff_ne.mpr hm
    rw [if_neg hm, if_neg hm]
    have ha := atE_r T va
    have PL := Aside0.mk (fun W v' ps' (k : MmuAt W base L v' T ps' l) => place_call W base L v' T ps' l va u wr hv k)
    unfold accV at PL
    by_cases hin : posP (va / 512) ps < ps.length
    · rw [if_pos hin, if_pos hin]
      have GT : Aside0 (∀ W, Below w.heap.size w W → Calls Try.prog 84 #[.pointer (some ⟨L.t, 0, none⟩), .int .u32 (va / 512)] W fun e w' => e = .returned (.tuple #[.int .u32 (entP (va / 512) ps), .bool true]) ∧ Below W.heap.size W w') := ⟨fun W hW => by
        have := get_yes W base L.t v ps (va / 512) (h.then hW).tlb hin
        unfold entP; rw [if_pos hin]; exact this⟩
      have hxr := entP_r h (va / 512)
      generalize entP (va / 512) ps = x at *
      cases hw : wrE x
      · have HE : Aside0 (∀ p ∈ putP (va / 512) (orM x) ps, (0 ≤ p.1 ∧ p.1 < 8388608) ∧ 0 ≤ p.2 ∧ p.2 < 4294967296) := ⟨fun p hp => by
          rcases putP_mem _ _ _ _ hp with hp | rfl
          · exact h.ents p hp
          · exact ⟨by have := hv.1; have := hv.2; show 0 ≤ va / 512 ∧ va / 512 < 8388608; omega, orM_r hxr⟩⟩
        simp only [Bool.false_eq_true, if_false]
        unfold memMark
        cases hoff : offE T va
        · rw [hoff] at PL
          simp only [Bool.false_eq_true, if_false] at PL ⊢
          by_cases hb : atE T va + 4 ≤ l.length
          · rw [if_pos hb]
            have hyr := lenum_r h.by_ (atE T va).toNat (by have := ha.1; omega)
            have RG : Aside0 (∀ W v' ps', MmuAt W base L v' T ps' l → Calls Try.prog 41 #[.pointer (some ⟨L.r, 0, none⟩), .int .u32 (atE T va), .int .i64 4] W fun e w' => e = .returned (.tuple #[.int .u32 (leN ((l.drop (atE T va).toNat).take 4)), .int .i64 0]) ∧ W = w') :=
              ⟨fun W v' ps' k => get_i W base L.r L.b l.length L.c l k.by_ (atE T va) 4 ha.1 ha.2 k.ram (by decide) hb (by decide) _ rfl⟩
            generalize leN ((l.drop (atE T va).toNat).take 4) = y at *
            have hz := orM_r hyr
            refine mark_23 w base L v T ps l va u wr h hm' x GT ⟨fun W => hw ▸ pwr_call W x hxr⟩ (orM x) (or_mod x hxr) HE (atE T va) PL y (orM y) RG (or_mod y hyr) (putL l (atE T va).toNat (orM y) 4) ⟨fun W v' ps' k => ?_⟩
            refine (put_i W base L.r L.b l.length L.c l (atE T va) 4 (orM y) hz.1 hz.2 ha.1 ha.2 k.ram (by decide) hb (by decide)).mono ?_
            rintro e w' ⟨rfl, hr, hg⟩
            exact ⟨rfl, k.ram_step (putL_length _ _ _ _) hr hg (putL_bytes _ k.by_ _ _ _)⟩
          · rw [if_neg hb]
            have RG : Aside0 (∀ W v' ps', MmuAt W base L v' T ps' l → Calls Try.prog 41 #[.pointer (some ⟨L.r, 0, none⟩), .int .u32 (atE T va), .int .i64 4] W fun e w' => e = .returned (.tuple #[.int .u32 0, .int .i64 6]) ∧ W = w') :=
              ⟨fun W v' ps' k => get_bus_i W base L.r L.b l.length L.c l (atE T va) 4 ha.1 ha.2 k.ram (fun c => hb c.2.1)⟩
            exact mark_22 w base L v T ps l va u wr h hm' x GT ⟨fun W => hw ▸ pwr_call W x hxr⟩ (orM x) (or_mod x hxr) HE (atE T va) PL 0 6 (by decide) RG
        · rw [hoff] at PL
          simp only [if_true] at PL ⊢
          exact mark_21 w base L v T ps l va u wr h hm' x GT ⟨fun W => hw ▸ pwr_call W x hxr⟩ (orM x) (or_mod x hxr) HE 0 2 va (flt 2 va 1 wr).2.2 (by decide) PL
      · simp only [if_true]
        exact mark_1 w base L v T ps l va u wr h hm' x GT ⟨fun W => hw ▸ pwr_call W x hxr⟩
    · rw [if_neg hin, if_neg hin]
      have GT : Aside0 (∀ W, Below w.heap.size w W → Calls Try.prog 84 #[.pointer (some ⟨L.t, 0, none⟩), .int .u32 (va / 512)] W fun e w' => e = .returned (.tuple #[.int .u32 0, .bool false]) ∧ Below W.heap.size W w') := ⟨fun W hW => get_no W base L.t v ps (va / 512) (h.then hW).tlb hin⟩
      unfold memMark
      cases hoff : offE T va
      · rw [hoff] at PL
        simp only [Bool.false_eq_true, if_false] at PL ⊢
        by_cases hb : atE T va + 4 ≤ l.length
        · rw [if_pos hb]
          have hyr := lenum_r h.by_ (atE T va).toNat (by have := ha.1; omega)
          have RG : Aside0 (∀ W v' ps', MmuAt W base L v' T ps' l → Calls Try.prog 41 #[.pointer (some ⟨L.r, 0, none⟩), .int .u32 (atE T va), .int .i64 4] W fun e w' => e = .returned (.tuple #[.int .u32 (leN ((l.drop (atE T va).toNat).take 4)), .int .i64 0]) ∧ W = w') :=
            ⟨fun W v' ps' k => get_i W base L.r L.b l.length L.c l k.by_ (atE T va) 4 ha.1 ha.2 k.ram (by decide) hb (by decide) _ rfl⟩
          generalize leN ((l.drop (atE T va).toNat).take 4) = y at *
          have hz := orM_r hyr
          refine mark_13 w base L v T ps l va u wr h hm' 0 GT (atE T va) PL y (orM y) RG (or_mod y hyr) (putL l (atE T va).toNat (orM y) 4) ⟨fun W v' ps' k => ?_⟩
          refine (put_i W base L.r L.b l.length L.c l (atE T va) 4 (orM y) hz.1 hz.2 ha.1 ha.2 k.ram (by decide) hb (by decide)).mono ?_
          rintro e w' ⟨rfl, hr, hg⟩
          exact ⟨rfl, k.ram_step (putL_length _ _ _ _) hr hg (putL_bytes _ k.by_ _ _ _)⟩
        · rw [if_neg hb]
          have RG : Aside0 (∀ W v' ps', MmuAt W base L v' T ps' l → Calls Try.prog 41 #[.pointer (some ⟨L.r, 0, none⟩), .int .u32 (atE T va), .int .i64 4] W fun e w' => e = .returned (.tuple #[.int .u32 0, .int .i64 6]) ∧ W = w') :=
            ⟨fun W v' ps' k => get_bus_i W base L.r L.b l.length L.c l (atE T va) 4 ha.1 ha.2 k.ram (fun c => hb c.2.1)⟩
          exact mark_12 w base L v T ps l va u wr h hm' 0 GT (atE T va) PL 0 6 (by decide) RG
      · rw [hoff] at PL
        simp only [if_true] at PL ⊢
        exact mark_11 w base L v T ps l va u wr h hm' 0 GT 0 2 va (flt 2 va 1 wr).2.2 (by decide) PL
/-- The marks of pieces; the bytes laid into them. -/
def markS (T : Tabs) (s : List (Int × Int) × List Int) (p : Pc) : List (Int × Int) × List Int := (markP T s.1 p.1, markL T s.1 s.2 p.1)
def marks (T : Tabs) (xs : List Pc) (ps : List (Int × Int)) (l : List Int) : List (Int × Int) × List Int := xs.foldl (markS T) (ps, l)
def layS (s : List Int × List Int) (p : Pc) : List Int × List Int := (s.1.take p.2.1.toNat ++ (s.2.take p.2.2 ++ s.1.drop (p.2.1.toNat + p.2.2)), s.2.drop p.2.2)
def lays (xs : List Pc) (l bs : List Int) : List Int × List Int := xs.foldl layS (l, bs)
def sumN (xs : List Pc) : Nat := (xs.map fun p => p.2.2).sum
theorem take_snoc {α : Type} (xs : List α) (d : α) (j : Nat) (hj : j < xs.length) : xs.take (j + 1) = xs.take j ++ [xs.getD j d] := by
  rw [List.take_add_one, List.getElem?_eq_getElem hj, List.getD_eq_getElem?_getD, List.getElem?_eq_getElem hj]; rfl
theorem marks_next (T : Tabs) (xs : List Pc) (ps : List (Int × Int)) (l : List Int) (j : Nat) (hj : j < xs.length) : marks T (xs.take (j + 1)) ps l = markS T (marks T (xs.take j) ps l) (xs.getD j (0, 0, 0)) := by
  unfold marks
  rw [take_snoc xs (0, 0, 0) j hj, List.foldl_append]; rfl
theorem lays_next (xs : List Pc) (l bs : List Int) (j : Nat) (hj : j < xs.length) : lays (xs.take (j + 1)) l bs = layS (lays (xs.take j) l bs) (xs.getD j (0, 0, 0)) := by
  unfold lays
  rw [take_snoc xs (0, 0, 0) j hj, List.foldl_append]; rfl
theorem marks_length (T : Tabs) : ∀ (xs : List Pc) (ps : List (Int × Int)) (l : List Int), (marks T xs ps l).2.length = l.length
  | [], ps, l => rfl
  | p :: xs, ps, l => (marks_length T xs (markP T ps p.1) (markL T ps l p.1)).trans (markL_length T ps l p.1)
theorem memMark_bytes {T : Tabs} {l : List Int} (h : Bytes l) (va : Int) : Bytes (memMark T l va) := by
  unfold memMark
  split
  · exact h
  · split
    · exact putL_bytes _ h _ _ _
    · exact h
theorem markL_bytes {T : Tabs} {l : List Int} (h : Bytes l) (ps : List (Int × Int)) (va : Int) : Bytes (markL T ps l va) := by
  unfold markL
  split
  · exact h
  · split
    · split
      · exact h
      · exact memMark_bytes h va
    · exact memMark_bytes h va
theorem marks_bytes {T : Tabs} : ∀ (xs : List Pc) {ps : List (Int × Int)} {l : List Int}, Bytes l → Bytes (marks T xs ps l).2
  | [], ps, l, h => h
  | p :: xs, ps, l, h => marks_bytes xs (markL_bytes h ps p.1)
theorem Pcs.total {T : Tabs} {l : List Int} {u wr keep : Bool} {ps : List (Int × Int)} {va n : Int} {xs : List Pc} {f : Flt} {ps' : List (Int × Int)} (h : Pcs T l u wr keep ps va n xs f ps') : f.1 = 0 → sumN xs = n.toNat := by
  induction h with
  | done h => intro _; show 0 = _; omega
  | stop h hf => intro c; exact absurd c hf
  | @more ps0 va0 n0 xs f ps' h hf k ih =>
    intro c
    have h2 := stepN_pos (va := va0) h
    have := ih c
    rw [if_pos c]
    show (stepN va0 n0).toNat + sumN xs = _
    omega
/-- The memory laid into; its length; the bytes left. -/
theorem layS_length (s : List Int × List Int) (p : Pc) (h1 : p.2.1.toNat + p.2.2 ≤ s.1.length) (h2 : p.2.2 ≤ s.2.length) : (layS s p).1.length = s.1.length ∧ (layS s p).2.length = s.2.length - p.2.2 := by
  unfold layS
  simp only [List.length_append, List.length_take, List.length_drop]
  generalize p.2.1.toNat = q at *
  refine ⟨?_, trivial⟩
  omega
theorem lays_length : ∀ (xs : List Pc) (l bs : List Int), (∀ p ∈ xs, p.2.1.toNat + p.2.2 ≤ l.length) → sumN xs ≤ bs.length → (lays xs l bs).1.length = l.length ∧ (lays xs l bs).2.length = bs.length - sumN xs
  | [], l, bs, _, _ => ⟨rfl, rfl⟩
  | p :: xs, l, bs, h, hs => by
    have hs' : p.2.2 + sumN xs ≤ bs.length := hs
    obtain ⟨e1, e2⟩ := layS_length (l, bs) p (h p List.mem_cons_self) (show p.2.2 ≤ bs.length by omega)
    have e1 : (layS (l, bs) p).1.length = l.length := e1
    have e2 : (layS (l, bs) p).2.length = bs.length - p.2.2 := e2
    obtain ⟨i1, i2⟩ := lays_length xs (layS (l, bs) p).1 (layS (l, bs) p).2 (fun q hq => by rw [e1]; exact h q (List.mem_cons_of_mem _ hq)) (by rw [e2]; omega)
    refine ⟨i1.trans e1, i2.trans ?_⟩
    rw [e2]
    show bs.length - p.2.2 - sumN xs = bs.length - (p.2.2 + sumN xs)
    omega
theorem sumN_take (xs : List Pc) (j : Nat) : sumN (xs.take j) ≤ sumN xs := by
  have e : sumN xs = sumN (xs.take j) + sumN (xs.drop j) := by
    unfold sumN
    conv => lhs; rw [← List.take_append_drop j xs]
    rw [List.map_append, List.sum_append]
  omega
theorem sumN_next (xs : List Pc) (j : Nat) (hj : j < xs.length) : sumN (xs.take (j + 1)) = sumN (xs.take j) + (xs.getD j (0, 0, 0)).2.2 := by
  rw [take_snoc xs (0, 0, 0) j hj]
  unfold sumN
  rw [List.map_append, List.sum_append]; rfl
theorem lays_bytes : ∀ (xs : List Pc) {l bs : List Int}, Bytes l → Bytes bs → Bytes (lays xs l bs).1
  | [], l, bs, h, _ => h
  | p :: xs, l, bs, h, k => by
    refine lays_bytes xs (l := (layS (l, bs) p).1) (bs := (layS (l, bs) p).2) ?_ (k.drop _)
    intro x hx
    rcases List.mem_append.1 hx with hx | hx
    · exact h.take _ x hx
    · rcases List.mem_append.1 hx with hx | hx
      · exact k.take _ x hx
      · exact h.drop _ x hx
/-- Bytes read stay where their block does. -/
theorem reads_chg {S : Nat → Prop} {w W : World} {k : IntKind} {A : Option Addr} {n : Nat} {xs : List Int} (h : ReadsInt w k A n xs) (c : Chg S w W) (hA : ∀ a, A = some a → 0 < n → ¬ S a.block) : ReadsInt W k A n xs :=
  ⟨h.1, h.2.1, fun hn => by
    obtain ⟨ad, e, hc⟩ := h.2.2 hn
    refine ⟨ad, e, fun j hj => ?_⟩
    have hb := World.block_lt_of_cell? w _ (hc j hj)
    have hbk : (ad.add j).block = ad.block := by unfold Addr.add; split <;> rfl
    rw [hbk] at hb
    exact (World.cell?_of_block (w := w) (by rw [hbk]; exact c.block ad.block hb (hA ad e hn))).trans (hc j hj)⟩
theorem load_at (w : World) (base g b c m n : Nat) (l ys : List Int) (at_ : Nat) (A : Option Addr) (cap : Nat) (hm : l.length = m) (hn : ys.length = n) (ha : at_ < 4294967296) (h : RamAt w base g (.slice (some ⟨b, 0, none⟩) m c) l) (hy : ReadsInt w .u8 A n ys) (h1 : at_ + n ≤ m) :
    Calls Try.prog 16 #[.pointer (some ⟨g, 0, none⟩), .int .u32 at_, .slice A n cap] w fun e w' => e = .returned (.int .i64 0) ∧ RamAt w' base g (.slice (some ⟨b, 0, none⟩) m c) (l.take at_ ++ (ys ++ l.drop (at_ + n))) ∧ w.grownBy w' (some b) := by
  subst hm hn
  exact Go.Proofs.Ytiogbgjeimdgmaa.RamWalk.load_call w base g b c l ys at_ A cap ha h hy h1
end Go.Proofs.Ytiogbgjeimdgmaa.MmuWalk
