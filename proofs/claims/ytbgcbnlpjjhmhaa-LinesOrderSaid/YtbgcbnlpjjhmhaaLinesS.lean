/- Changes of cycles that all differ may come in any order. No program in sight. No condition. -/
import Derived.Test.YtbgcbnlpjjhmhaaLinesR
namespace Go.Proofs.Ytbgcbnlpjjhmhaa.HeapLaw
set_option linter.unusedVariables false
/-- A change without its number. -/
def strip (e : Ent) : Int × Int × Bool := (e.cy, e.lv, e.on)
def updT (on : Nat → Bool) (t : Int × Int × Bool) : Nat → Bool := updB on t.2.1.toNat t.2.2
theorem fold_strip : ∀ (F : List Ent) (on : Nat → Bool), F.foldl updE on = (F.map strip).foldl updT on
  | [], _ => rfl
  | e :: F, on => by rw [List.foldl_cons, List.map_cons, List.foldl_cons, fold_strip F]; rfl
theorem take_strip (c : Int) : ∀ F : List Ent, (F.takeWhile (fun e => decide (e.cy ≤ c))).map strip = (F.map strip).takeWhile (fun t => decide (t.1 ≤ c))
  | [] => rfl
  | e :: F => by
    rw [List.map_cons, List.takeWhile_cons, List.takeWhile_cons]
    show List.map strip (if decide (e.cy ≤ c) = true then _ else _) = if decide (e.cy ≤ c) = true then _ else _
    by_cases h : decide (e.cy ≤ c) = true
    · rw [if_pos h, if_pos h, List.map_cons, take_strip c F]
    · rw [if_neg h, if_neg h]; rfl
theorem drop_strip (c : Int) : ∀ F : List Ent, (F.dropWhile (fun e => decide (e.cy ≤ c))).map strip = (F.map strip).dropWhile (fun t => decide (t.1 ≤ c))
  | [] => rfl
  | e :: F => by
    rw [List.map_cons, List.dropWhile_cons, List.dropWhile_cons]
    show List.map strip (if decide (e.cy ≤ c) = true then _ else _) = if decide (e.cy ≤ c) = true then _ else _
    by_cases h : decide (e.cy ≤ c) = true
    · rw [if_pos h, if_pos h, drop_strip c F]
    · rw [if_neg h, if_neg h, List.map_cons]
def okT (t : Int × Int × Bool) : Bool := !decide (t.2.1 < 1 ∨ 31 < t.2.1 ∨ t.1 < 0)
theorem acc_strip : ∀ (es : List (Int × Int × Bool)) (n : Int), (accF es n).map strip = es.filter okT
  | [], _ => rfl
  | e :: es, n => by
    unfold accF
    by_cases h : e.2.1 < 1 ∨ 31 < e.2.1 ∨ e.1 < 0
    · rw [if_pos h, acc_strip es n, List.filter_cons_of_neg (by unfold okT; rw [decide_eq_true h]; decide)]
    · rw [if_neg h, List.map_cons, acc_strip es (n + 1), List.filter_cons_of_pos (by unfold okT; rw [decide_eq_false h]; rfl)]
      rfl
/-- In order of their cycles they are the same. -/
theorem order_same (es fs : List (Int × Int × Bool)) (hp : es.Perm fs) (hd : (es.map Prod.fst).Nodup) : (sortE (accF es 0)).map strip = (sortE (accF fs 0)).map strip := by
  have p1 : ((sortE (accF es 0)).map strip).Perm (es.filter okT) := by rw [← acc_strip es 0]; exact (sortE_perm _).map _
  have p2 : ((sortE (accF fs 0)).map strip).Perm (fs.filter okT) := by rw [← acc_strip fs 0]; exact (sortE_perm _).map _
  have hpp : ((sortE (accF es 0)).map strip).Perm ((sortE (accF fs 0)).map strip) := p1.trans ((hp.filter _).trans p2.symm)
  have hs : ∀ A : List Ent, (A.Pairwise LeE) → (A.map strip).Pairwise (fun a b => a.1 ≤ b.1) := fun A h => by
    rw [List.pairwise_map]
    exact h.imp fun {a b} hab => by unfold LeE at hab; show a.cy ≤ b.cy; omega
  refine List.Perm.eq_of_pairwise (le := fun a b => a.1 ≤ b.1) (fun a b ha hb h1 h2 => ?_) (hs _ (sortE_sorted _)) (hs _ (sortE_sorted _)) hpp
  have ma : a ∈ es := (List.mem_filter.1 (p1.mem_iff.1 ha)).1
  have mb : b ∈ es := hp.mem_iff.2 (List.mem_filter.1 (p2.mem_iff.1 hb)).1
  have hab : a.1 = b.1 := by omega
  obtain ⟨i, hi, hia⟩ := List.mem_iff_getElem.1 ma
  obtain ⟨j, hj, hjb⟩ := List.mem_iff_getElem.1 mb
  have := (List.getElem_inj (xs := es.map Prod.fst) (i := i) (j := j) (h₀ := by rw [List.length_map]; exact hi) (h₁ := by rw [List.length_map]; exact hj) hd).1 (by rw [List.getElem_map, List.getElem_map, hia, hjb]; exact hab)
  subst this
  rw [← hia, ← hjb]
/-- Two lines that agree. -/
def Alike2 (s t : St) : Prop := ∃ A B u, From A s u ∧ From B t u ∧ A.Pairwise LeE ∧ B.Pairwise LeE ∧ A.map strip = B.map strip ∧ s.now = t.now
theorem Alike2.on {s t : St} (h : Alike2 s t) : s.on = t.on ∧ s.xs.length = t.xs.length := by
  obtain ⟨A, B, u, f1, f2, s1, s2, e, _⟩ := h
  refine ⟨by rw [f1.on, f2.on, fold_strip, fold_strip, take_strip, take_strip, e], ?_⟩
  rw [f1.len, f2.len]
  have := congrArg List.length (show ((A.dropWhile (fun e => decide (e.cy ≤ u))).map strip) = ((B.dropWhile (fun e => decide (e.cy ≤ u))).map strip) by rw [drop_strip, drop_strip, e])
  simpa using this
theorem Alike2.at {s t : St} (h : Alike2 s t) (c : Int) : Alike2 (atS s c) (atS t c) := by
  obtain ⟨A, B, u, f1, f2, s1, s2, e, hn⟩ := h
  have hw : nowS t c = nowS s c := by unfold nowS; rw [hn]
  have g2 := f2.at s2 c
  rw [hw] at g2
  exact ⟨A, B, nowS s c, f1.at s1 c, g2, s1, s2, e, by show nowS s c = nowS t c; rw [hw]⟩
theorem alike_add (es fs : List (Int × Int × Bool)) (hl : es.length ≤ 60) (hp : es.Perm fs) (hd : (es.map Prod.fst).Nodup) : Alike2 (addAll St.new es) (addAll St.new fs) := by
  have from0 : ∀ es : List (Int × Int × Bool), es.length ≤ 60 → From (sortE (accF es 0)) (addAll St.new es) (-1) ∧ (addAll St.new es).now = 0 := fun es hl => by
    obtain ⟨n, hn⟩ := addAll_new es St.new rfl (by show 0 + es.length ≤ _; omega)
    have hpos : ∀ e ∈ sortE (accF es 0), 0 ≤ e.cy := fun e he => (accF_pos es 0 e ((sortE_perm _).mem_iff.1 he)).1
    have ht := takeWhile_none _ hpos (-1) (by decide)
    rw [hn]
    refine ⟨⟨?_, ?_, ?_, by show (-1 : Int) ≤ 0; omega⟩, rfl⟩
    · rw [ht.2]
      show ([] ++ accF es 0).Perm _
      rw [List.nil_append]; exact (sortE_perm _).symm
    · rw [ht.1]; rfl
    · show Inc ([] ++ accF es 0)
      rw [List.nil_append]; exact (accF_inc es 0).1
  have a := from0 es hl
  have b := from0 fs (by rw [← hp.length_eq]; exact hl)
  exact ⟨_, _, -1, a.1, b.1, sortE_sorted _, sortE_sorted _, order_same es fs hp hd, by rw [a.2, b.2]⟩
/-- The other order: from the end on, turned by k. -/
def turnL (es : List (Int × Int × Bool)) (k : Nat) : List (Int × Int × Bool) := (List.range es.length).map fun i => es.getD (es.length - 1 - (i + k) % es.length) (0, 0, false)
theorem range_perm (n : Nat) (f : Nat → Nat) (h1 : ∀ i, i < n → f i < n) (h2 : ∀ i j, i < n → j < n → f i = f j → i = j) (h3 : ∀ x, x < n → ∃ i, i < n ∧ f i = x) : ((List.range n).map f).Perm (List.range n) := by
  have hnd : ((List.range n).map f).Nodup := by
    rw [List.nodup_iff_pairwise_ne, List.pairwise_map]
    refine List.Pairwise.imp_of_mem (fun {a b} ha hb hab he => ?_) (List.nodup_iff_pairwise_ne.1 List.nodup_range)
    exact hab (h2 a b (List.mem_range.1 ha) (List.mem_range.1 hb) he)
  refine (List.perm_ext_iff_of_nodup hnd List.nodup_range).2 fun x => ⟨fun hx => ?_, fun hx => ?_⟩
  · obtain ⟨i, hi, rfl⟩ := List.mem_map.1 hx
    exact List.mem_range.2 (h1 i (List.mem_range.1 hi))
  · obtain ⟨i, hi, he⟩ := h3 x (List.mem_range.1 hx)
    exact List.mem_map.2 ⟨i, List.mem_range.2 hi, he⟩
theorem turn_perm (es : List (Int × Int × Bool)) (k : Nat) (hn : 0 < es.length) : es.Perm (turnL es k) := by
  have e1 : es = (List.range es.length).map fun i => es.getD i (0, 0, false) := by
    refine List.ext_getElem (by simp) fun i h1 h2 => ?_
    rw [List.getElem_map, List.getElem_range, List.getD_eq_getElem?_getD, List.getElem?_eq_getElem h1]; rfl
  have e2 : turnL es k = (((List.range es.length).map fun i => es.length - 1 - (i + k) % es.length).map fun i => es.getD i (0, 0, false)) := by
    unfold turnL; rw [List.map_map]; rfl
  rw [e2]
  conv => lhs; rw [e1]
  refine (List.Perm.map _ ?_).symm
  refine range_perm es.length _ (fun i hi => by omega) (fun i j hi hj h => ?_) (fun x hx => ?_)
  rotate_left
  · refine ⟨(es.length - 1 - x + (es.length - k % es.length)) % es.length, Nat.mod_lt _ hn, ?_⟩
    have e3 : es.length - 1 - x + (es.length - k % es.length) + k = es.length - 1 - x + es.length * (k / es.length + 1) := by
      have q1 := Nat.div_add_mod k es.length
      have q2 := Nat.mod_lt k hn
      rw [Nat.mul_succ]; omega
    rw [Nat.mod_add_mod, e3, Nat.add_mul_mod_self_left, Nat.mod_eq_of_lt (by omega)]
    omega
  have a1 := Nat.mod_lt (i + k) hn
  have a2 := Nat.mod_lt (j + k) hn
  have h3 : (i + k) % es.length = (j + k) % es.length := by omega
  have b1 := Nat.div_add_mod (i + k) es.length
  have b2 := Nat.div_add_mod (j + k) es.length
  have : es.length * ((i + k) / es.length) + j + k = es.length * ((j + k) / es.length) + i + k := by omega
  rcases Nat.lt_trichotomy ((i + k) / es.length) ((j + k) / es.length) with q | q | q
  · have := Nat.mul_le_mul_left es.length (Nat.succ_le_of_lt q)
    rw [Nat.mul_succ] at this
    omega
  · rw [q] at this; omega
  · have := Nat.mul_le_mul_left es.length (Nat.succ_le_of_lt q)
    rw [Nat.mul_succ] at this
    omega
end Go.Proofs.Ytbgcbnlpjjhmhaa.HeapLaw
