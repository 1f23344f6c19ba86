/- Rom: the two ways to read an image, and that they are one; plain. -/
import Derived.Test.YtnljnccfpkpgfaaDoorRomA
namespace Go.Proofs.YtnljnccfpkpgfaaDoor.RomWalk
open Go.RowKit
set_option linter.unusedVariables false
set_option linter.unusedSimpArgs false
/-- What the document's Decode answers. -/
def decS (b : List Int) : Option (List Int × Ents) :=
  if b.length < 11 then none else
  match pW (leD ((b.drop 4).take 2)).toNat (b.drop 7) with
  | none => none
  | some r => match pE (b.getD 6 0).toNat r.2 with
    | none => none
    | some q => if goodS r.1 q.1 = true ∧ encS r.1 q.1 = b then some (r.1, q.1) else none
/-- What the program's Decode answers. -/
def decP (b : List Int) : Option (List Int × Ents) :=
  if b.length < 4 then none else
  if (b.take (b.length - 4)).take 4 ≠ [67, 65, 77, 82] then none else
  if leD (b.drop (b.length - 4)) ≠ sumS (b.take (b.length - 4)) then none else
  if ((b.take (b.length - 4)).drop 4).length < 3 then none else
  match pW (leD (((b.take (b.length - 4)).drop 4).take 2)).toNat (((b.take (b.length - 4)).drop 4).drop 3) with
  | none => none
  | some r => match pE (((b.take (b.length - 4)).drop 4).getD 2 0).toNat r.2 with
    | none => none
    | some q => if q.2 = [] ∧ goodS r.1 q.1 = true then some (r.1, q.1) else none
theorem good_parts {ws : List Int} {es : Ents} (h : goodS ws es = true) : ws.length ≤ 2048 ∧ es.length ≤ 255 ∧ ∀ i, i < es.length → okE ws es i = true := by
  unfold goodS at h
  simp only [Bool.and_eq_true, decide_eq_true_eq, List.all_eq_true, List.mem_range] at h
  exact ⟨h.1.1, h.1.2, h.2⟩
theorem good_EG {ws : List Int} {es : Ents} (h : goodS ws es = true) : EG es := by
  obtain ⟨h1, h2, h3⟩ := good_parts h
  intro e he
  obtain ⟨i, hi, rfl⟩ := List.mem_iff_getElem.1 he
  have := h3 i hi
  unfold okE nameS at this
  simp only [Bool.and_eq_true, decide_eq_true_eq, List.getD_eq_getElem?_getD, List.getElem?_eq_getElem hi, Option.getD_some] at this
  obtain ⟨⟨⟨⟨⟨⟨q1, q2⟩, q3⟩, q4⟩, q5⟩, q6⟩, q7⟩ := this
  exact ⟨by omega, by omega, by omega⟩
theorem bodyS_len (ws : List Int) (es : Ents) : (bodyS ws es).length = 7 + (wrdS ws ++ entsS es).length := by
  unfold bodyS
  simp only [List.length_append, putS_length, List.length_cons, List.length_nil]
  omega
theorem encS_len (ws : List Int) (es : Ents) : (encS ws es).length = (bodyS ws es).length + 4 := by
  unfold encS
  rw [List.length_append, putS_length]
theorem decS_iff (b : List Int) (hb : Bys b) (ws : List Int) (es : Ents) : decS b = some (ws, es) ↔ WR ws ∧ goodS ws es = true ∧ encS ws es = b := by
  constructor
  · intro h
    unfold decS at h
    split at h
    · cases h
    split at h
    · cases h
    rename_i r hr
    split at h
    · cases h
    rename_i q hq
    split at h
    · rename_i g
      simp only [Option.some.injEq, Prod.mk.injEq] at h
      obtain ⟨e1, e2⟩ := h
      subst e1 e2
      exact ⟨(pW_sound _ _ _ _ (hb.drop 7) hr).2.1, g.1, g.2⟩
    · cases h
  · rintro ⟨hw, hg, rfl⟩
    obtain ⟨g1, g2, g3⟩ := good_parts hg
    have hE := good_EG hg
    unfold decS
    have e4 : (encS ws es).drop 4 = putS ws.length 2 ++ (putS es.length 1 ++ ((wrdS ws ++ entsS es) ++ putS (sumS (bodyS ws es)) 4)) := by
      unfold encS
      conv => lhs; rw [bodyS]
      simp only [List.append_assoc]
      rfl
    have e7 : (encS ws es).drop 7 = wrdS ws ++ (entsS es ++ putS (sumS (bodyS ws es)) 4) := by
      rw [show (encS ws es).drop 7 = ((encS ws es).drop 4).drop 3 from by rw [List.drop_drop], e4, ← List.append_assoc, List.drop_left' (by rw [List.length_append, putS_length, putS_length]), List.append_assoc]
    have e6 : (encS ws es).getD 6 0 = es.length := by
      have : (encS ws es).getD 6 0 = ((encS ws es).drop 4).getD 2 0 := by
        rw [List.getD_eq_getElem?_getD, List.getD_eq_getElem?_getD, List.getElem?_drop]
      rw [this, e4]
      show ((es.length : Int) % 256) = _
      omega
    have p2 : (ws.length : Int) < 256 ^ 2 := by
      show (ws.length : Int) < 65536
      omega
    rw [e4, e7, e6, List.take_left' (putS_length _ 2), leD_putS 2 _ (by omega) p2, Int.toNat_natCast, Int.toNat_natCast, pW_app ws _ hw]
    simp only
    rw [pE_app es _ hE]
    simp only
    rw [if_neg (by rw [encS_len, bodyS_len]; omega), if_pos ⟨hg, trivial⟩]
theorem decP_iff (b : List Int) (hb : Bys b) (ws : List Int) (es : Ents) : decP b = some (ws, es) ↔ WR ws ∧ goodS ws es = true ∧ encS ws es = b := by
  constructor
  · intro h
    unfold decP at h
    split at h
    · cases h
    rename_i h4
    split at h
    · cases h
    rename_i hp
    split at h
    · cases h
    rename_i ht
    obtain ⟨d, hd⟩ : ∃ d, b.take (b.length - 4) = d := ⟨_, rfl⟩
    obtain ⟨s, hs⟩ : ∃ s, d.drop 4 = s := ⟨_, rfl⟩
    rw [hd] at h hp ht
    rw [hs] at h
    split at h
    · cases h
    rename_i h3
    split at h
    · cases h
    rename_i r hr
    split at h
    · cases h
    rename_i q hq
    split at h
    · rename_i g
      simp only [Option.some.injEq, Prod.mk.injEq] at h
      obtain ⟨e1, e2⟩ := h
      subst e1 e2
      have bd : Bys d := hd ▸ hb.take _
      have bs : Bys s := hs ▸ bd.drop _
      obtain ⟨w1, w2, w3, w4⟩ := pW_sound _ _ _ _ (bs.drop 3) hr
      obtain ⟨x1, x2, x3, x4⟩ := pE_sound _ _ _ _ w4 hq
      refine ⟨w2, g.2, ?_⟩
      rw [g.1, List.append_nil] at x3
      rw [x3] at w3
      have l2 : (s.take 2).length = 2 := by rw [List.length_take]; omega
      have b2 := leD_bnd _ (bs.take 2)
      have p2 := putS_leD _ (bs.take 2)
      rw [l2] at p2
      have q1 : putS (r.1.length : Int) 2 = s.take 2 := by rw [w1, Int.toNat_of_nonneg b2.1, p2]
      have b3 := bs.get 2
      have q2 : putS (q.1.length : Int) 1 = (s.drop 2).take 1 := by
        rw [x1, Int.toNat_of_nonneg b3.1]
        show [s.getD 2 0 % 256] = _
        have hs2 : s.drop 2 = s.getD 2 0 :: s.drop 3 := by
          rw [List.drop_eq_getElem_cons (by omega), List.getD_eq_getElem?_getD, List.getElem?_eq_getElem (by omega)]
          rfl
        rw [hs2]
        show [s.getD 2 0 % 256] = [s.getD 2 0]
        congr 1
        omega
      have eb : bodyS r.1 q.1 = d := by
        unfold bodyS
        rw [q1, q2, ← w3]
        have : s.take 2 ++ ((s.drop 2).take 1 ++ s.drop 3) = s := by
          rw [show s.drop 3 = (s.drop 2).drop 1 from by rw [List.drop_drop], List.take_append_drop, List.take_append_drop]
        rw [this, ← Decidable.not_not.1 hp, ← hs, List.take_append_drop]
      have l4 : (b.drop (b.length - 4)).length = 4 := by rw [List.length_drop]; omega
      have p4 := putS_leD _ (hb.drop (b.length - 4))
      rw [l4, Decidable.not_not.1 ht] at p4
      unfold encS
      rw [eb, p4, ← hd, List.take_append_drop]
    · cases h
  · rintro ⟨hw, hg, rfl⟩
    obtain ⟨g1, g2, g3⟩ := good_parts hg
    have hE := good_EG hg
    unfold decP
    have hl := encS_len ws es
    have hn : (encS ws es).length - 4 = (bodyS ws es).length := by omega
    rw [hn]
    have hd : (encS ws es).take (bodyS ws es).length = bodyS ws es := List.take_left' rfl
    have ht : (encS ws es).drop (bodyS ws es).length = putS (sumS (bodyS ws es)) 4 := List.drop_left' rfl
    have hs : (bodyS ws es).drop 4 = putS ws.length 2 ++ (putS es.length 1 ++ (wrdS ws ++ entsS es)) := rfl
    have hsb := sumS_bnd (bodyS ws es)
    have hb4 : sumS (bodyS ws es) < 256 ^ 4 := by
      show sumS (bodyS ws es) < 4294967296
      exact hsb.2
    rw [hd, ht, hs, leD_putS 4 _ hsb.1 hb4, if_neg (by omega), if_neg (fun q => q rfl), if_neg (fun q => q rfl), if_neg (by simp only [List.length_append, putS_length]; omega)]
    have e3 : (putS (ws.length : Int) 2 ++ (putS (es.length : Int) 1 ++ (wrdS ws ++ entsS es))).drop 3 = wrdS ws ++ entsS es := by
      rw [← List.append_assoc, List.drop_left' (by rw [List.length_append, putS_length, putS_length])]
    have e2 : (putS (ws.length : Int) 2 ++ (putS (es.length : Int) 1 ++ (wrdS ws ++ entsS es))).getD 2 0 = es.length := by
      show ((es.length : Int) % 256) = _
      omega
    have p2 : (ws.length : Int) < 256 ^ 2 := by
      show (ws.length : Int) < 65536
      omega
    rw [e3, e2, List.take_left' (putS_length _ 2), leD_putS 2 _ (by omega) p2, Int.toNat_natCast, Int.toNat_natCast, pW_app ws _ hw]
    simp only
    have := pE_app es [] hE
    rw [List.append_nil] at this
    rw [this]
    simp only
    rw [if_pos ⟨trivial, hg⟩]
theorem dec_eq (b : List Int) (hb : Bys b) : decP b = decS b := by
  apply Option.ext
  rintro ⟨ws, es⟩
  rw [decP_iff b hb, decS_iff b hb]
theorem encS_bys (ws : List Int) (es : Ents) : Bys (encS ws es) := by
  unfold encS bodyS wrdS entsS
  refine Bys.append (Bys.append (by intro x hx; simp at hx; omega) (Bys.append (putS_bys _ _) (Bys.append (putS_bys _ _) (Bys.append ?_ ?_)))) (putS_bys _ _)
  · intro x hx
    obtain ⟨y, _, hy⟩ := List.mem_flatMap.1 hx
    exact putS_bys y 8 x hy
  · intro x hx
    obtain ⟨y, _, hy⟩ := List.mem_flatMap.1 hx
    unfold entS at hy
    exact Bys.append (putS_bys _ _) (Bys.append (nmB_bys _) (putS_bys _ _)) x hy
theorem sum_set : ∀ (l : List Int) (p : Nat) (y : Int), p < l.length → (l.set p y).sum = l.sum + (y - l.getD p 0)
  | [], p, y, h => absurd h (Nat.not_lt_zero _)
  | a :: t, 0, y, h => by simp only [List.set_cons_zero, List.sum_cons, List.getD_cons_zero]; omega
  | a :: t, p + 1, y, h => by
    simp only [List.set_cons_succ, List.sum_cons, List.getD_cons_succ]
    rw [sum_set t p y (by simpa using h)]
    omega
/-- With a byte of its words turned it is no image. -/
theorem turned (ws : List Int) (es : Ents) (p : Nat) (y : Int) (hp : p < (bodyS ws es).length) (hy0 : 0 ≤ y) (hy1 : y < 256) (hne : (bodyS ws es).getD p 0 ≠ y) : decP ((encS ws es).set p y) = none := by
  have hb : Bys ((encS ws es).set p y) := fun x hx => (List.mem_or_eq_of_mem_set hx).elim (encS_bys ws es x) (fun e => e ▸ ⟨hy0, hy1⟩)
  have hl := encS_len ws es
  have hn : ((encS ws es).set p y).length - 4 = (bodyS ws es).length := by rw [List.length_set]; omega
  have he : (encS ws es).set p y = (bodyS ws es).set p y ++ putS (sumS (bodyS ws es)) 4 := by
    unfold encS
    rw [List.set_append_left _ _ hp]
  have hlen : ((bodyS ws es).set p y).length = (bodyS ws es).length := List.length_set
  unfold decP
  rw [hn]
  split
  · rfl
  split
  · rfl
  split
  · rfl
  rename_i ht
  exfalso
  have ht := Decidable.not_not.1 ht
  have hsb := sumS_bnd (bodyS ws es)
  have hb4 : sumS (bodyS ws es) < 256 ^ 4 := by
    show sumS (bodyS ws es) < 4294967296
    exact hsb.2
  rw [he, List.drop_left' hlen, List.take_left' hlen, leD_putS 4 _ hsb.1 hb4] at ht
  have b1 := sumP_bnd (bodyS ws es)
  have b2 := sumP_bnd ((bodyS ws es).set p y)
  unfold sumS at ht
  have e1 : (sumP (bodyS ws es)).1 = (sumP ((bodyS ws es).set p y)).1 := by omega
  rw [sumP_fst, sumP_fst] at e1
  have bb : Bys (bodyS ws es) := fun x hx => encS_bys ws es x (List.mem_append_left _ hx)
  have bp := bb.get p
  have hs : ((bodyS ws es).set p y).sum = (bodyS ws es).sum + (y - (bodyS ws es).getD p 0) := by
    exact sum_set _ _ _ hp
  rw [hs] at e1
  generalize (bodyS ws es).getD p 0 = z at *
  generalize (bodyS ws es).sum = q at *
  clear hs
  omega
end Go.Proofs.YtnljnccfpkpgfaaDoor.RomWalk
