/- Rom: the image of a ROM and what is read out of it; plain. -/
import Derived.Test.YtnljnccfpkpgfaaDoorAid
import Derived.RowKit
namespace Go.Proofs.YtnljnccfpkpgfaaDoor.RomWalk
open Go.RowKit
set_option linter.unusedVariables false
set_option linter.unusedSimpArgs false
/-- All are bytes. -/
def Bys (l : List Int) : Prop := ∀ x ∈ l, 0 ≤ x ∧ x < 256
theorem Bys.take {l : List Int} (h : Bys l) (n : Nat) : Bys (l.take n) := fun x hx => h x (List.mem_of_mem_take hx)
theorem Bys.drop {l : List Int} (h : Bys l) (n : Nat) : Bys (l.drop n) := fun x hx => h x (List.mem_of_mem_drop hx)
theorem Bys.append {a b : List Int} (h : Bys a) (k : Bys b) : Bys (a ++ b) := fun x hx => (List.mem_append.1 hx).elim (h x) (k x)
theorem Bys.get {l : List Int} (h : Bys l) (i : Nat) : 0 ≤ l.getD i 0 ∧ l.getD i 0 < 256 := by
  by_cases hi : i < l.length
  · rw [List.getD_eq_getElem?_getD, List.getElem?_eq_getElem hi]; exact h _ (List.getElem_mem hi)
  · rw [List.getD_eq_getElem?_getD, List.getElem?_eq_none (by omega)]; exact ⟨by decide, by decide⟩
/-- A number's lowest bytes, the lowest first; the number that bytes are. -/
def putS (x : Int) : Nat → List Int
  | 0 => []
  | n + 1 => (x % 256) :: putS (x / 256) n
def leD : List Int → Int
  | [] => 0
  | x :: t => x + 256 * leD t
theorem putS_length (x : Int) : ∀ n, (putS x n).length = n := by
  intro n
  induction n generalizing x with
  | zero => rfl
  | succ n ih => simp [putS, ih]
theorem putS_bys (x : Int) : ∀ n, Bys (putS x n) := by
  intro n
  induction n generalizing x with
  | zero => intro y hy; cases hy
  | succ n ih =>
    intro y hy
    rcases List.mem_cons.1 hy with rfl | hy
    · exact ⟨Int.emod_nonneg _ (by decide), Int.emod_lt_of_pos _ (by decide)⟩
    · exact ih _ y hy
theorem leD_putS (n : Nat) : ∀ x : Int, 0 ≤ x → x < 256 ^ n → leD (putS x n) = x := by
  induction n with
  | zero => intro x h0 h1; show (0 : Int) = x; simp at h1; omega
  | succ n ih =>
    intro x h0 h1
    show x % 256 + 256 * leD (putS (x / 256) n) = x
    rw [ih (x / 256) (by omega) (by rw [Int.pow_succ] at h1; omega)]
    omega
theorem leD_bnd : ∀ l : List Int, Bys l → 0 ≤ leD l ∧ leD l < 256 ^ l.length
  | [], _ => ⟨by decide, by decide⟩
  | x :: t, h => by
    have h1 := h x List.mem_cons_self
    have h2 := leD_bnd t (fun y hy => h y (List.mem_cons_of_mem _ hy))
    show 0 ≤ x + 256 * leD t ∧ x + 256 * leD t < 256 ^ (t.length + 1)
    rw [Int.pow_succ]
    omega
theorem putS_leD : ∀ l : List Int, Bys l → putS (leD l) l.length = l
  | [], _ => rfl
  | x :: t, h => by
    have h1 := h x List.mem_cons_self
    show (x + 256 * leD t) % 256 :: putS ((x + 256 * leD t) / 256) t.length = x :: t
    rw [show (x + 256 * leD t) % 256 = x from by omega, show (x + 256 * leD t) / 256 = leD t from by omega, putS_leD t (fun y hy => h y (List.mem_cons_of_mem _ hy))]
/-- A text's bytes; the text that bytes are. -/
def nmB (s : ByteArray) : List Int := s.data.toList.map fun b => (b.toNat : Int)
def ofB (l : List Int) : ByteArray := ⟨(l.map fun x => UInt8.ofNat x.toNat).toArray⟩
theorem ofB_nmB (s : ByteArray) : ofB (nmB s) = s := by
  unfold ofB nmB
  rw [List.map_map]
  have : (fun x : Int => UInt8.ofNat x.toNat) ∘ (fun b : UInt8 => (b.toNat : Int)) = id := by
    funext b
    simp
  rw [this, List.map_id]
theorem nmB_ofB (l : List Int) (h : Bys l) : nmB (ofB l) = l := by
  unfold ofB nmB
  rw [List.map_map]
  have : ∀ x ∈ l, ((fun b : UInt8 => (b.toNat : Int)) ∘ fun x : Int => UInt8.ofNat x.toNat) x = x := fun x hx => by
    have := h x hx
    show ((UInt8.ofNat x.toNat).toNat : Int) = x
    rw [UInt8.toNat_ofNat']
    omega
  rw [List.map_congr_left this, List.map_id']
theorem nmB_length (s : ByteArray) : (nmB s).length = s.size := by unfold nmB; rw [List.length_map]; rfl
theorem ofB_size (l : List Int) : (ofB l).size = l.length := by
  show (List.map _ l).toArray.size = _
  simp
theorem nmB_bys (s : ByteArray) : Bys (nmB s) := fun x hx => by
  obtain ⟨b, _, rfl⟩ := List.mem_map.1 hx
  have := b.toNat_lt
  omega
abbrev Ents := List (ByteArray × Int)
def entS (e : ByteArray × Int) : List Int := putS e.1.size 1 ++ (nmB e.1 ++ putS e.2 2)
def wrdS (ws : List Int) : List Int := ws.flatMap fun x => putS x 8
def entsS (es : Ents) : List Int := es.flatMap entS
def bodyS (ws : List Int) (es : Ents) : List Int := [67, 65, 77, 82] ++ (putS ws.length 2 ++ (putS es.length 1 ++ (wrdS ws ++ entsS es)))
/-- The check of bytes. -/
def sumA (p : Int × Int) (x : Int) : Int × Int := ((p.1 + x) % 65521, (p.2 + (p.1 + x) % 65521) % 65521)
def sumP (l : List Int) : Int × Int := l.foldl sumA (1, 0)
def sumS (l : List Int) : Int := 65536 * (sumP l).2 + (sumP l).1
def encS (ws : List Int) (es : Ents) : List Int := bodyS ws es ++ putS (sumS (bodyS ws es)) 4
def letC (b : Int) : Bool := (decide (97 ≤ b) && decide (b ≤ 122)) || (decide (65 ≤ b) && decide (b ≤ 90)) || decide (b = 95)
def digC (b : Int) : Bool := decide (48 ≤ b) && decide (b ≤ 57)
def nameS (s : ByteArray) : Bool := decide (1 ≤ s.size) && decide (s.size ≤ 24) && (nmB s).all (fun b => letC b || digC b) && !(digC ((nmB s).getD 0 0))
def okE (ws : List Int) (es : Ents) (i : Nat) : Bool := nameS (es.getD i default).1 && decide (0 ≤ (es.getD i default).2) && decide ((es.getD i default).2 < ws.length) && (es.take i).all fun f => decide (f.1 ≠ (es.getD i default).1)
def goodS (ws : List Int) (es : Ents) : Bool := decide (ws.length ≤ 2048) && decide (es.length ≤ 255) && (List.range es.length).all (okE ws es)
def WR (ws : List Int) : Prop := ∀ x ∈ ws, 0 ≤ x ∧ x < 18446744073709551616
theorem sumA_bnd (l : List Int) : ∀ p : Int × Int, 0 ≤ p.1 → p.1 < 65521 → 0 ≤ p.2 → p.2 < 65521 → 0 ≤ (l.foldl sumA p).1 ∧ (l.foldl sumA p).1 < 65521 ∧ 0 ≤ (l.foldl sumA p).2 ∧ (l.foldl sumA p).2 < 65521 := by
  induction l with
  | nil => intro p h0 h1 h2 h3; exact ⟨h0, h1, h2, h3⟩
  | cons x t ih =>
    intro p h0 h1 h2 h3
    exact ih (sumA p x) (by unfold sumA; simp only; omega) (by unfold sumA; simp only; omega) (by unfold sumA; simp only; omega) (by unfold sumA; simp only; omega)
theorem sumP_bnd (l : List Int) : 0 ≤ (sumP l).1 ∧ (sumP l).1 < 65521 ∧ 0 ≤ (sumP l).2 ∧ (sumP l).2 < 65521 := sumA_bnd l (1, 0) (by decide) (by decide) (by decide) (by decide)
theorem sumS_bnd (l : List Int) : 0 ≤ sumS l ∧ sumS l < 4294967296 := by
  have := sumP_bnd l
  unfold sumS
  omega
theorem sumA_fst (l : List Int) : ∀ p : Int × Int, (l.foldl sumA p).1 % 65521 = (p.1 + l.sum) % 65521 := by
  induction l with
  | nil => intro p; simp
  | cons x t ih =>
    intro p
    rw [List.foldl_cons, ih, List.sum_cons]
    unfold sumA
    simp only
    omega
theorem sumP_fst (l : List Int) : (sumP l).1 = (1 + l.sum) % 65521 := by
  have h := sumA_fst l (1, 0)
  have b := sumP_bnd l
  unfold sumP at b ⊢
  rw [← h]
  omega
/-- Reading words; entries. -/
def pW : Nat → List Int → Option (List Int × List Int)
  | 0, l => some ([], l)
  | k + 1, l => if l.length < 8 then none else (pW k (l.drop 8)).map fun r => (leD (l.take 8) :: r.1, r.2)
def pE : Nat → List Int → Option (Ents × List Int)
  | 0, l => some ([], l)
  | k + 1, l => if l.length < 1 then none else if l.length < 1 + ((l.getD 0 0).toNat + 2) then none else
    (pE k (l.drop (1 + ((l.getD 0 0).toNat + 2)))).map fun r => ((ofB ((l.drop 1).take (l.getD 0 0).toNat), leD ((l.drop (1 + (l.getD 0 0).toNat)).take 2)) :: r.1, r.2)
theorem pW_sound : ∀ k l ws t, Bys l → pW k l = some (ws, t) → ws.length = k ∧ WR ws ∧ l = wrdS ws ++ t ∧ Bys t := by
  intro k
  induction k with
  | zero =>
    intro l ws t hl h
    simp only [pW, Option.some.injEq, Prod.mk.injEq] at h
    obtain ⟨rfl, rfl⟩ := h
    exact ⟨rfl, (fun x hx => by cases hx), rfl, hl⟩
  | succ k ih =>
    intro l ws t hl h
    unfold pW at h
    by_cases h8 : l.length < 8
    · rw [if_pos h8] at h; cases h
    rw [if_neg h8] at h
    obtain ⟨⟨ws', t'⟩, h1, h2⟩ := Option.map_eq_some_iff.1 h
    simp only [Prod.mk.injEq] at h2
    obtain ⟨rfl, rfl⟩ := h2
    obtain ⟨e1, e2, e3, e4⟩ := ih _ _ _ (hl.drop 8) h1
    have l8 : (l.take 8).length = 8 := by rw [List.length_take]; omega
    have b8 := leD_bnd _ (hl.take 8)
    rw [l8] at b8
    have p8 := putS_leD _ (hl.take 8)
    rw [l8] at p8
    refine ⟨by rw [List.length_cons, e1], fun x hx => ?_, ?_, e4⟩
    · rcases List.mem_cons.1 hx with rfl | hx
      · exact ⟨b8.1, b8.2⟩
      · exact e2 x hx
    · show l = (putS (leD (l.take 8)) 8 ++ wrdS ws') ++ t'
      rw [p8, List.append_assoc, ← e3, List.take_append_drop]
theorem pW_app : ∀ ws t, WR ws → pW ws.length (wrdS ws ++ t) = some (ws, t) := by
  intro ws
  induction ws with
  | nil => intro t _; rfl
  | cons x ws ih =>
    intro t h
    have e : wrdS (x :: ws) ++ t = putS x 8 ++ (wrdS ws ++ t) := by show (putS x 8 ++ wrdS ws) ++ t = _; rw [List.append_assoc]
    rw [e]
    have l8 := putS_length x 8
    show pW (ws.length + 1) _ = _
    unfold pW
    rw [if_neg (by rw [List.length_append, l8]; omega), List.drop_left' l8, List.take_left' l8, ih t (fun y hy => h y (List.mem_cons_of_mem _ hy)), leD_putS 8 x (h x List.mem_cons_self).1 (h x List.mem_cons_self).2]
    rfl
def EG (es : Ents) : Prop := ∀ e ∈ es, e.1.size ≤ 255 ∧ 0 ≤ e.2 ∧ e.2 < 65536
theorem entS_len (e : ByteArray × Int) : (entS e).length = 1 + (e.1.size + 2) := by
  unfold entS
  rw [List.length_append, List.length_append, putS_length, putS_length, nmB_length]
theorem pE_sound : ∀ k l es t, Bys l → pE k l = some (es, t) → es.length = k ∧ EG es ∧ l = entsS es ++ t ∧ Bys t := by
  intro k
  induction k with
  | zero =>
    intro l es t hl h
    simp only [pE, Option.some.injEq, Prod.mk.injEq] at h
    obtain ⟨rfl, rfl⟩ := h
    exact ⟨rfl, (fun x hx => by cases hx), rfl, hl⟩
  | succ k ih =>
    intro l es t hl h
    unfold pE at h
    by_cases h1 : l.length < 1
    · rw [if_pos h1] at h; cases h
    rw [if_neg h1] at h
    by_cases h2 : l.length < 1 + ((l.getD 0 0).toNat + 2)
    · rw [if_pos h2] at h; cases h
    rw [if_neg h2] at h
    obtain ⟨⟨es', t'⟩, h3, h4⟩ := Option.map_eq_some_iff.1 h
    simp only [Prod.mk.injEq] at h4
    obtain ⟨rfl, rfl⟩ := h4
    obtain ⟨e1, e2, e3, e4⟩ := ih _ _ _ (hl.drop _) h3
    obtain ⟨c, l', rfl⟩ : ∃ c l', l = c :: l' := by
      cases l with
      | nil => simp at h1
      | cons c l' => exact ⟨c, l', rfl⟩
    have hc := hl c List.mem_cons_self
    obtain ⟨n, rfl⟩ : ∃ n : Nat, c = n := ⟨c.toNat, by omega⟩
    simp only [List.getD_cons_zero, Int.toNat_natCast, List.drop_succ_cons, List.drop_zero, List.length_cons, Nat.add_comm 1] at *
    have hl' : Bys l' := fun x hx => hl x (List.mem_cons_of_mem _ hx)
    have ln : (l'.take n).length = n := by rw [List.length_take]; omega
    have l2 : ((l'.drop n).take 2).length = 2 := by rw [List.length_take, List.length_drop]; omega
    have b2 := leD_bnd _ ((hl'.drop n).take 2)
    have p2 := putS_leD _ ((hl'.drop n).take 2)
    rw [l2] at b2 p2
    refine ⟨by rw [e1], fun x hx => ?_, ?_, e4⟩
    · rcases List.mem_cons.1 hx with rfl | hx
      · refine ⟨by show (ofB _).size ≤ 255; rw [ofB_size, ln]; omega, b2.1, ?_⟩
        have := b2.2
        show leD ((l'.drop n).take 2) < 65536
        simpa using this
      · exact e2 x hx
    · have ee : entS (ofB (l'.take n), leD ((l'.drop n).take 2)) = (n : Int) :: (l'.take n ++ (l'.drop n).take 2) := by
        unfold entS
        simp only
        rw [ofB_size, ln, nmB_ofB _ (hl'.take n), p2]
        show ((n : Int) % 256) :: ([] ++ _) = _
        rw [show ((n : Int) % 256) = n from by omega]
        rfl
      show (n : Int) :: l' = (entS _ ++ entsS es') ++ t'
      rw [ee, List.append_assoc, ← e3, List.cons_append, List.append_assoc, ← List.drop_drop, List.take_append_drop, List.take_append_drop]
theorem pE_app : ∀ es t, EG es → pE es.length (entsS es ++ t) = some (es, t) := by
  intro es
  induction es with
  | nil => intro t _; rfl
  | cons x es ih =>
    intro t h
    obtain ⟨s, a⟩ := x
    have hx := h (s, a) List.mem_cons_self
    simp only at hx
    have e : entsS ((s, a) :: es) ++ t = (s.size : Int) :: (nmB s ++ (putS a 2 ++ (entsS es ++ t))) := by
      show (entS (s, a) ++ entsS es) ++ t = _
      unfold entS
      show (((s.size : Int) % 256 :: (([] : List Int) ++ (nmB s ++ putS a 2))) ++ entsS es) ++ t = _
      rw [show ((s.size : Int) % 256) = (s.size : Int) from by omega]
      simp only [List.nil_append, List.cons_append, List.append_assoc]
    rw [e]
    have ln := nmB_length s
    have l2 := putS_length a 2
    show pE (es.length + 1) _ = _
    unfold pE
    simp only [List.getD_cons_zero, Int.toNat_natCast, List.drop_succ_cons, List.drop_zero, List.length_cons, Nat.add_comm 1]
    rw [if_neg (by omega), if_neg (by rw [List.length_append, List.length_append, ln, l2]; omega), List.take_left' ln, List.drop_left' ln, List.take_left' l2, ← List.drop_drop, List.drop_left' ln, List.drop_left' l2, ih t (fun y hy => h y (List.mem_cons_of_mem _ hy)), leD_putS 2 a hx.2.1 (by simpa using hx.2.2), ofB_nmB]
    rfl
end Go.Proofs.YtnljnccfpkpgfaaDoor.RomWalk
