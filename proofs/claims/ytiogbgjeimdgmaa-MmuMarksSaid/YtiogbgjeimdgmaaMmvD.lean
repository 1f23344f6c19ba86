/- MmuMarks: plain. -/
import Derived.Test.YtiogbgjeimdgmaaGMmd
namespace Go.Proofs.Ytiogbgjeimdgmaa.MmuWalk
open Go.RowKit Go.Proofs.Ytiogbgjeimdgmaa.Aid Go.Proofs.YtiogbgjeimdgmaaW.PrintWords Go.Proofs.YtiogbgjeimdgmaaW.PrintLast Go.Proofs.YtiogbgjeimdgmaaW.PrintMore
open Go.Proofs.Ytiogbgjeimdgmaa.RamWalk (RamAt Bytes leN putL putL_length putL_bytes zeros_bytes zeros_num get_put4)
open Go.Proofs.Ytiogbgjeimdgmaa.TlbWalk (TlbAt putP posP entP nil2)
set_option linter.unusedVariables false
set_option linter.unusedSimpArgs false
theorem seg_eq {a b : List Int} (P : Nat) (hl : a.length = b.length) (h : ∀ j, j < 4 → a.getD (P + j) 0 = b.getD (P + j) 0) : (a.drop P).take 4 = (b.drop P).take 4 := by
  apply List.ext_getElem?
  intro j
  by_cases hj : j < 4
  · rw [List.getElem?_take_of_lt hj, List.getElem?_take_of_lt hj, List.getElem?_drop, List.getElem?_drop]
    have e := h j hj
    rw [List.getD_eq_getElem?_getD, List.getD_eq_getElem?_getD] at e
    by_cases hb : P + j < b.length
    · have ha : P + j < a.length := by omega
      rw [List.getElem?_eq_getElem ha, List.getElem?_eq_getElem hb] at e ⊢
      simp only [Option.getD_some] at e
      rw [e]
    · rw [List.getElem?_eq_none (by omega), List.getElem?_eq_none (by omega)]
  · rw [List.getElem?_eq_none (by rw [List.length_take]; omega), List.getElem?_eq_none (by rw [List.length_take]; omega)]
theorem leN_byL (x : Int) (hx : R32 x) : leN (byL x 4) = x := by
  show x / 2 ^ (8 * 0) % 256 + 256 * (x / 2 ^ (8 * 1) % 256 + 256 * (x / 2 ^ (8 * 2) % 256 + 256 * (x / 2 ^ (8 * 3) % 256 + 256 * 0))) = x
  have h0 := hx.1
  have h1 := hx.2
  have e0 : (2 : Int) ^ (8 * 0) = 1 := by decide
  have e1 : (2 : Int) ^ (8 * 1) = 256 := by decide
  have e2 : (2 : Int) ^ (8 * 2) = 65536 := by decide
  have e3 : (2 : Int) ^ (8 * 3) = 16777216 := by decide
  rw [e0, e1, e2, e3]
  omega
def tM : Tabs := ⟨0, 1, 0, 0, 1⟩
theorem tM_ok : tM.ok := by unfold tM Tabs.ok; decide
/-- An entry of that page that may be written to. -/
structure EntM (fr X : Int) : Prop where
  r : R32 X
  fr : X % 2097152 = fr
  prot : protE X = 3
  is : isE X = true
theorem offM (at_ : Int) (h0 : 0 ≤ at_) (h1 : at_ ≤ 508) : offE tM at_ = false := by
  unfold offE lenT pageE tM
  simp only [Bool.or_eq_false_iff, decide_eq_false_iff_not]
  refine ⟨by omega, ?_⟩
  split <;> omega
theorem atM (at_ : Int) (h0 : 0 ≤ at_) (h1 : at_ ≤ 508) : atE tM at_ = 0 := by
  unfold atE baseT pageE tM
  split <;> simp only <;> omega
theorem stepM (at_ : Int) (h0 : 0 ≤ at_) (h1 : at_ ≤ 508) : stepN at_ 4 = 4 := by
  unfold stepN; split <;> omega
theorem mayM {fr X : Int} (h : EntM fr X) (wr : Bool) : mayE X true wr = true := by
  unfold mayE
  rw [h.prot]
  cases wr <;> decide
theorem entryM {fr X : Int} (h : EntM fr X) (l : List Int) (ps : List (Int × Int)) (at_ : Int) (wr : Bool) (hk : lookF tM ps l at_ wr = (X, noF)) : entryF tM ps l at_ true wr = (X, noF) := by
  unfold entryF
  rw [hk]
  rw [if_neg (by simp [noF]), mayM h, if_neg (by decide), h.is, if_neg (by decide)]
theorem lookM1 {X : Int} (l : List Int) (at_ : Int) (wr : Bool) (h0 : 0 ≤ at_) (h1 : at_ ≤ 508) (hl : l.length = 4096) (hX : leN ((l.drop 0).take 4) = X) : lookF tM [] l at_ wr = (X, noF) := by
  unfold lookF
  rw [if_neg (by simp [posP])]
  unfold memF
  rw [offM at_ h0 h1, atM at_ h0 h1, if_neg (by decide), if_pos (by rw [hl]; decide)]
  rw [show ((0 : Int)).toNat = 0 from rfl, hX]
theorem posM (X at_ : Int) (h0 : 0 ≤ at_) (h1 : at_ ≤ 508) : posP (at_ / 512) [(0, X)] = 0 := by
  unfold posP
  rw [if_pos (by show (0 : Int) = at_ / 512; omega)]
theorem onep (X : Int) : 0 < [((0 : Int), X)].length := Nat.zero_lt_one
theorem lookM2 (X : Int) (l : List Int) (at_ : Int) (wr : Bool) (h0 : 0 ≤ at_) (h1 : at_ ≤ 508) : lookF tM [(0, X)] l at_ wr = (X, noF) := by
  unfold lookF entP
  rw [posM X at_ h0 h1, if_pos (onep X), if_pos (onep X)]
  rfl
theorem findM {fr X : Int} (h : EntM fr X) (l : List Int) (ps : List (Int × Int)) (at_ : Int) (wr : Bool) (h0 : 0 ≤ at_) (h1 : at_ ≤ 508) (hf0 : 0 ≤ fr) (hf1 : fr ≤ 6) (hl : l.length = 4096) (hk : lookF tM ps l at_ wr = (X, noF)) : findF tM ps l at_ 4 true wr = (fr * 512 + at_, noF) := by
  unfold findF
  rw [if_neg (by decide), entryM h l ps at_ wr hk, if_neg (by simp [noF])]
  have e : placeE X at_ = fr * 512 + at_ := by
    unfold placeE
    rw [h.fr]; omega
  show (if placeE X at_ + 4 ≤ l.length then (placeE X at_, noF) else _) = _
  rw [e, if_pos (by rw [hl]; omega)]
theorem findPM1 {fr X : Int} (h : EntM fr X) (l : List Int) (at_ : Int) (wr : Bool) (h0 : 0 ≤ at_) (h1 : at_ ≤ 508) (hk : lookF tM [] l at_ wr = (X, noF)) : findP tM [] l at_ true wr true = [(0, X)] := by
  unfold findP entryP
  rw [if_neg (by decide), entryM h l [] at_ wr hk, if_pos ⟨rfl, by simp [posP], rfl⟩]
  have e : at_ / 512 = 0 := by omega
  rw [e]
  rfl
theorem findPM2 (X : Int) (l : List Int) (at_ : Int) (wr : Bool) (h0 : 0 ≤ at_) (h1 : at_ ≤ 508) : findP tM [(0, X)] l at_ true wr true = [(0, X)] := by
  unfold findP entryP
  rw [if_neg (by decide), if_neg]
  rintro ⟨_, c, _⟩
  rw [posM X at_ h0 h1] at c
  exact c (onep X)
theorem pcsM1 {fr X : Int} (h : EntM fr X) (l : List Int) (at_ : Int) (wr : Bool) (h0 : 0 ≤ at_) (h1 : at_ ≤ 508) (hf0 : 0 ≤ fr) (hf1 : fr ≤ 6) (hl : l.length = 4096) (hX : leN ((l.drop 0).take 4) = X) : Pcs tM l true wr true [] at_ 4 [(at_, fr * 512 + at_, 4)] (0, 0, 0) [(0, X)] := by
  have hk := lookM1 l at_ wr h0 h1 hl hX
  have s := stepM at_ h0 h1
  have f := findM h l [] at_ wr h0 h1 hf0 hf1 hl hk
  have d := Pcs.more (T := tM) (l := l) (u := true) (wr := wr) (keep := true) (ps := []) (va := at_) (n := 4) (by decide) (by rw [s, f]; rfl) (Pcs.done (by rw [s]; decide))
  rw [s, f, findPM1 h l at_ wr h0 h1 hk] at d
  exact d
theorem pcsM2 {fr X : Int} (h : EntM fr X) (l : List Int) (at_ : Int) (wr : Bool) (h0 : 0 ≤ at_) (h1 : at_ ≤ 508) (hf0 : 0 ≤ fr) (hf1 : fr ≤ 6) (hl : l.length = 4096) : Pcs tM l true wr true [(0, X)] at_ 4 [(at_, fr * 512 + at_, 4)] (0, 0, 0) [(0, X)] := by
  have hk := lookM2 X l at_ wr h0 h1
  have s := stepM at_ h0 h1
  have f := findM h l [(0, X)] at_ wr h0 h1 hf0 hf1 hl hk
  have d := Pcs.more (T := tM) (l := l) (u := true) (wr := wr) (keep := true) (ps := [(0, X)]) (va := at_) (n := 4) (by decide) (by rw [s, f]; rfl) (Pcs.done (by rw [s]; decide))
  rw [s, f, findPM2 X l at_ wr h0 h1] at d
  exact d
theorem entM1 (fr : Int) (hf0 : 0 ≤ fr) (hf1 : fr ≤ 6) : EntM fr (2550136832 + fr) ∧ wrE (2550136832 + fr) = false := by
  refine ⟨⟨⟨by omega, by omega⟩, by omega, ?_, ?_⟩, ?_⟩
  · unfold protE; omega
  · unfold isE; rw [decide_eq_true_eq]; omega
  · unfold wrE; rw [decide_eq_false_iff_not]; omega
theorem entM2 (fr : Int) (hf0 : 0 ≤ fr) (hf1 : fr ≤ 6) : EntM fr (2617245696 + fr) := by
  refine ⟨⟨by omega, by omega⟩, by omega, ?_, ?_⟩
  · unfold protE; omega
  · unfold isE; rw [decide_eq_true_eq]; omega
/-- The memory ahead; behind. -/
def lM (fr : Int) : List Int := putL (List.replicate 4096 0) 0 (2550136832 + fr) 4
def lW (fr at_ x : Int) : List Int := (lays [(at_, fr * 512 + at_, 4)] (putL (lM fr) 0 (2617245696 + fr) 4) (byL x 4)).1
theorem lM_length (fr : Int) : (lM fr).length = 4096 := by unfold lM; rw [putL_length, List.length_replicate]
theorem lM_bytes (fr : Int) : Bytes (lM fr) := putL_bytes _ (zeros_bytes _) _ _ _
theorem lM_head (fr : Int) (hf0 : 0 ≤ fr) (hf1 : fr ≤ 6) : leN (((lM fr).drop 0).take 4) = 2550136832 + fr :=
  get_put4 _ 0 _ (by omega) (by omega) (by rw [List.length_replicate]; decide)
theorem lM_zero (fr P : Int) (hP : 512 ≤ P) : leN (((lM fr).drop P.toNat).take 4) = 0 := by
  show leN (((putL (List.replicate 4096 0) 0 (2550136832 + fr) 4).drop P.toNat).take 4) = 0
  rw [seg_eq (b := List.replicate 4096 0) P.toNat (by rw [putL_length]) (fun j hj => putL_out _ _ _ 4 _ (by omega))]
  exact zeros_num _ _ _
theorem lW_eq (fr at_ x : Int) : lW fr at_ x = (putL (lM fr) 0 (2617245696 + fr) 4).take (fr * 512 + at_).toNat ++ (byL x 4 ++ (putL (lM fr) 0 (2617245696 + fr) 4).drop ((fr * 512 + at_).toNat + 4)) := by
  unfold lW lays
  have e : (byL x 4).take 4 = byL x 4 := List.take_of_length_le (by rw [byL_length]; exact Nat.le_refl _)
  show _ ++ ((byL x 4).take 4 ++ _) = _
  rw [e]
theorem pM_length (fr : Int) : (putL (lM fr) 0 (2617245696 + fr) 4).length = 4096 := by rw [putL_length, lM_length]
theorem lW_length (fr at_ x : Int) (h0 : 0 ≤ at_) (h1 : at_ ≤ 508) (hf0 : 1 ≤ fr) (hf1 : fr ≤ 6) : (lW fr at_ x).length = 4096 := by
  rw [lW_eq, List.length_append, List.length_append, List.length_take, List.length_drop, pM_length, byL_length]; omega
theorem lW_head (fr at_ x : Int) (h0 : 0 ≤ at_) (h1 : at_ ≤ 508) (hf0 : 1 ≤ fr) (hf1 : fr ≤ 6) : leN (((lW fr at_ x).drop 0).take 4) = 2617245696 + fr := by
  rw [seg_eq (b := putL (lM fr) 0 (2617245696 + fr) 4) 0 (by rw [lW_length fr at_ x h0 h1 hf0 hf1, pM_length]) (fun j hj => by
    rw [lW_eq]
    have := splice_out (putL (lM fr) 0 (2617245696 + fr) 4) (byL x 4) (fr * 512 + at_).toNat (0 + j) (by rw [pM_length, byL_length]; omega) (by rw [byL_length]; omega)
    rw [byL_length] at this
    exact this)]
  exact get_put4 _ 0 _ (by omega) (by omega) (by rw [lM_length]; decide)
theorem lW_at (fr at_ x : Int) (hx : R32 x) (h0 : 0 ≤ at_) (h1 : at_ ≤ 508) (hf0 : 1 ≤ fr) (hf1 : fr ≤ 6) : leN (((lW fr at_ x).drop (fr * 512 + at_).toNat).take 4) = x := by
  rw [lW_eq]
  have hl : ((putL (lM fr) 0 (2617245696 + fr) 4).take (fr * 512 + at_).toNat).length = (fr * 512 + at_).toNat := by rw [List.length_take, pM_length]; omega
  rw [List.drop_append_of_le_length (by omega), List.drop_of_length_le (by omega), List.nil_append, List.take_append_of_le_length (by rw [byL_length]; exact Nat.le_refl _), List.take_of_length_le (by rw [byL_length]; exact Nat.le_refl _)]
  exact leN_byL x hx
theorem storeM (fr at_ x : Int) (h0 : 0 ≤ at_) (h1 : at_ ≤ 508) (hf0 : 1 ≤ fr) (hf1 : fr ≤ 6) :
    storeP tM [(at_, fr * 512 + at_, 4)] 0 [(0, 2550136832 + fr)] (lM fr) = [(0, 2617245696 + fr)] ∧ storeL tM [(at_, fr * 512 + at_, 4)] 0 [(0, 2550136832 + fr)] (lM fr) (byL x 4) = lW fr at_ x := by
  obtain ⟨e1, e2⟩ := entM1 fr (by omega) hf1
  have hen : entP (at_ / 512) [(0, 2550136832 + fr)] = 2550136832 + fr := by
    unfold entP
    rw [posM _ at_ h0 h1, if_pos (onep _)]; rfl
  have hor : orM (2550136832 + fr) = 2617245696 + fr := by
    unfold orM; rw [e2, if_neg (by decide)]; omega
  have hm : marks tM [(at_, fr * 512 + at_, 4)] [(0, 2550136832 + fr)] (lM fr) = ([(0, 2617245696 + fr)], putL (lM fr) 0 (2617245696 + fr) 4) := by
    have e : at_ / 512 = 0 := by omega
    have hP : markP tM [(0, 2550136832 + fr)] at_ = [(0, 2617245696 + fr)] := by
      unfold markP
      rw [if_neg (show ¬ tM.men = 0 by decide), posM _ at_ h0 h1, if_pos (onep _), hen, e2, if_neg (by decide), hor]
      unfold putP
      rw [posM _ at_ h0 h1, if_pos (onep _), e]
      rfl
    have hL : markL tM [(0, 2550136832 + fr)] (lM fr) at_ = putL (lM fr) 0 (2617245696 + fr) 4 := by
      unfold markL memMark
      rw [if_neg (show ¬ tM.men = 0 by decide), posM _ at_ h0 h1, if_pos (onep _), hen, e2, if_neg (by decide), offM at_ h0 h1, if_neg (by decide), atM at_ h0 h1, if_pos (by rw [lM_length]; decide), show ((0 : Int)).toNat = 0 from rfl, lM_head fr (by omega) hf1, hor]
    show (markP tM [(0, 2550136832 + fr)] at_, markL tM [(0, 2550136832 + fr)] (lM fr) at_) = _
    rw [hP, hL]
  unfold storeP storeL
  rw [if_pos rfl, if_pos rfl, hm]
  exact ⟨rfl, rfl⟩
theorem M1.setRow {w0 W : World} {L : Loc} {T : Tabs} {ps : List (Int × Int)} {l : List Int} {g : Nat} {cs0 : Array Value} {ty : TypeId} {fr : Nat × Nat} (h : M1 w0 W L T ps l) (hg : w0.heap.size ≤ g) (hb : W.heap[g]? = some (.cells cs0 ty fr)) (ht : ¬ mTy ty) (cs : Array Value) : M1 w0 (W.setRow g cs) L T ps l := by
  obtain ⟨b, v, m⟩ := h
  exact ⟨below_setRow b hg cs, v, m.keep (fun i k => setRow_other W g i cs (m.ne_ty hb ht i k))⟩
end Go.Proofs.Ytiogbgjeimdgmaa.MmuWalk
