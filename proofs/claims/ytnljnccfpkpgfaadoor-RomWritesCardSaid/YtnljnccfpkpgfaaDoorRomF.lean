/- Rom: the reader, walked; the document's number. -/
import Derived.Test.YtnljnccfpkpgfaaDoorRomC
namespace Go.Proofs.YtnljnccfpkpgfaaDoor.RomWalk
open Go.RowKit Go.Proofs.YtnljnccfpkpgfaaDoor.Aid Go.Proofs.YtnljnccfpkpgfaaDoorW.PrintWords Go.Proofs.YtnljnccfpkpgfaaDoorW.PrintLast Go.Proofs.YtnljnccfpkpgfaaDoorW.PrintMore
attribute [local go_sem] max2_int min2_int max_two min_two max_three min_three max_four min_four   -- for this text's walks alone
set_option linter.unusedVariables false
set_option linter.unusedSimpArgs false
/-- Of what was there, block g alone may have turned. -/
structure KeptG (w w' : World) (g : Nat) : Prop where
  os : w'.os = w.os
  tape : w'.tape = w.tape
  output : w'.output = w.output
  size : w.heap.size ≤ w'.heap.size
  block : ∀ k, k < w.heap.size → k ≠ g → w'.heap[k]? = w.heap[k]?
theorem KeptG.refl (w : World) (g : Nat) : KeptG w w g := ⟨rfl, rfl, rfl, Nat.le_refl _, fun _ _ _ => rfl⟩
theorem KeptG.set {w w1 : World} {g : Nat} (h : KeptG w w1 g) (j : Nat) (u : Value) : KeptG w (w1.setCell ⟨g, j, none⟩ u) g :=
  ⟨h.os, h.tape, h.output, by simpa [World.setCell] using h.size, fun i hi h1 => (Below.heap_setCell w1 ⟨g, j, none⟩ u i h1).trans (h.block i hi h1)⟩
theorem KeptG.drewN {w w1 : World} {g : Nat} (h : KeptG w w1 g) (n : Nat) : KeptG w (w1.drewN n) g := ⟨h.os, h.tape, h.output, h.size, h.block⟩
theorem KeptG.drew {w w1 : World} {g : Nat} (h : KeptG w w1 g) : KeptG w w1.drew g := ⟨h.os, h.tape, h.output, h.size, h.block⟩
theorem KeptG.then {w w1 w2 : World} {g : Nat} (h : KeptG w w1 g) (k : Below w1.heap.size w1 w2) : KeptG w w2 g :=
  ⟨k.os.trans h.os, k.tape.trans h.tape, k.output.trans h.output, Nat.le_trans h.size k.size, fun i hi h1 => (k.block i (Nat.lt_of_lt_of_le hi h.size)).trans (h.block i hi h1)⟩
theorem KeptG.below {w0 w w' : World} {g : Nat} (h : KeptG w w' g) (b : Below w0.heap.size w0 w) (hg : w0.heap.size ≤ g) : Below w0.heap.size w0 w' :=
  ⟨h.os.trans b.os, h.tape.trans b.tape, h.output.trans b.output, Nat.le_trans b.size h.size, fun i hi => (h.block i (Nat.lt_of_lt_of_le hi b.size) (by omega)).trans (b.block i hi)⟩
/-- A reader: what it has still before it, and whether all went well. -/
structure Rd (W : World) (g : Nat) (A : Option Addr) (n c : Nat) (l : List Int) (ok : Bool) : Prop where
  box : W.heap[g]? = some (.cells #[.slice A n c, .bool ok] 58 (0, 0))
  reads : ReadsInt W .u8 A n l
  cap : n ≤ c
  ne : ∀ ad, A = some ad → ad.block ≠ g
theorem KeptG.reads {w w' : World} {g : Nat} {A : Option Addr} {n : Nat} {l : List Int} {k : IntKind} (h : KeptG w w' g) (r : ReadsInt w k A n l) (ne : ∀ ad, A = some ad → ad.block ≠ g) : ReadsInt w' k A n l :=
  ⟨r.1, r.2.1, fun hn => by
    obtain ⟨ad, e, hc⟩ := r.2.2 hn
    refine ⟨ad, e, fun j hj => ?_⟩
    have h1 := hc j hj
    have hb : (ad.add j).block = ad.block := add_block ad j
    have hlt : ad.block < w.heap.size := by
      by_cases q : ad.block < w.heap.size
      · exact q
      · unfold World.cell? at h1
        rw [hb, Array.getElem?_eq_none (by omega)] at h1
        simp at h1
    have := h.block ad.block hlt (ne ad e)
    unfold World.cell? at h1 ⊢
    rw [hb] at h1 ⊢
    rw [this]
    exact h1⟩
/-- What is taken; what is left. -/
def tkS (l : List Int) (k : Nat) : List Int := if k ≤ l.length then l.take k else []
def rsS (l : List Int) (k : Nat) : List Int := if k ≤ l.length then l.drop k else []
/-- What take hands back. -/
def TPost (w : World) (g : Nat) (l : List Int) (ok : Bool) (k : Nat) (e : Ending) (w' : World) : Prop :=
  ∃ A1 c1 A2 n2 c2, e = .returned (.slice A1 (tkS l k).length c1) ∧ ReadsInt w' .u8 A1 (tkS l k).length (tkS l k) ∧ (tkS l k).length ≤ c1 ∧ (∀ ad, A1 = some ad → ad.block ≠ g) ∧ Rd w' g A2 n2 c2 (rsS l k) (ok && decide (k ≤ l.length)) ∧ KeptG w w' g
theorem set_reader {w : World} {g : Nat} {a b : Value} (h : w.heap[g]? = some (.cells #[a, b] 58 (0, 0))) (v : Value) : (w.setCell ⟨g, 0, none⟩ v).heap[g]? = some (.cells #[v, b] 58 (0, 0)) := blk_put h 0 v rfl
theorem set_reader1 {w : World} {g : Nat} {a b : Value} (h : w.heap[g]? = some (.cells #[a, b] 58 (0, 0))) (v : Value) : (w.setCell ⟨g, 1, none⟩ v).heap[g]? = some (.cells #[a, v] 58 (0, 0)) := blk_put h 1 v rfl
theorem take_post {w : World} {g : Nat} {A A2 : Option Addr} {n c c2 : Nat} {l : List Int} {ok : Bool} {k : Nat} (h : Rd w g A n c l ok) (hk : k ≤ n) (hA : A2 = if c = k then A else A.map (·.add k)) (hc : n - k ≤ c2) : TPost w g l ok k (.returned (.slice A k k)) (w.setCell ⟨g, 0, none⟩ (.slice A2 (n - k) c2)) := by
  have hl := h.reads.1
  have kp : KeptG w (w.setCell ⟨g, 0, none⟩ (.slice A2 (n - k) c2)) g := (KeptG.refl w g).set 0 _
  have e1 : tkS l k = l.take k := if_pos (by omega)
  have e2 : rsS l k = l.drop k := if_pos (by omega)
  have e3 : (l.take k).length = k := by rw [List.length_take]; omega
  have ne2 : ∀ ad, A2 = some ad → ad.block ≠ g := fun ad q => by
    rw [hA] at q
    split at q
    · exact h.ne ad q
    · obtain ⟨b, hb, rfl⟩ := Option.map_eq_some_iff.1 q
      rw [add_block]
      exact h.ne b hb
  refine ⟨A, k, A2, n - k, c2, by rw [e1, e3], by rw [e1, e3]; exact kp.reads (h.reads.take_ k hk) h.ne, by rw [e1, e3]; exact Nat.le_refl _, h.ne, ?_, kp⟩
  rw [e2, decide_eq_true (by omega : k ≤ l.length), Bool.and_true]
  refine ⟨set_reader h.box _, ?_, hc, ne2⟩
  have := kp.reads (h.reads.drop_ k hk h.cap) (by rw [← hA]; exact ne2)
  rwa [← hA] at this
set_option maxRecDepth 100000 in
set_option maxHeartbeats 4000000 in
theorem take_call (w : World) (g : Nat) (A : Option Addr) (n c : Nat) (l : List Int) (ok : Bool) (k : Nat) (h : Rd w g A n c l ok) :
    Calls Tryd.prog 29 #[.pointer (some ⟨g, 0, none⟩), .int .i64 (k : Int)] w (TPost w g l ok k) := by
  have c0 : w.cell? ⟨g, 0, none⟩ = some (.slice A n c) := cell_of_row _ _ 0 _ _ _ h.box
  have c1 : w.cell? ⟨g, 1, none⟩ = some (.bool ok) := cell_of_row _ _ 1 _ _ _ h.box
  have f0 : w.frozen? ⟨g, 0, none⟩ = false := frozen_of_row _ _ 0 _ _ h.box
  have f1 : w.frozen? ⟨g, 1, none⟩ = false := frozen_of_row _ _ 1 _ _ h.box
  by_cases hk : k ≤ n
  · have hk1 : (k : Int) ≤ n := by omega
    have hk0 : (0 : Int) ≤ k := by omega
    have hc := h.cap
    have hc1 : (n : Int) ≤ c := by omega
    have hc2 : (k : Int) ≤ c := by omega
    have H := Aside0.mk h
    clear h
    by_cases hck : c = k
    · have hP := Aside0.mk (take_post H.out hk (A2 := A) (c2 := 0) (by rw [if_pos hck]) (by omega))
      go_enter Tryd.func29, Tryd.ntmps29
      go_wp2
      go_ret
      exact hP.out
    · have hP := Aside0.mk (take_post H.out hk (A2 := A.map (·.add k)) (c2 := c - k) (by rw [if_neg hck]) (by omega))
      go_enter Tryd.func29, Tryd.ntmps29
      go_wp2
      go_ret
      exact hP.out
  · have hk1 : (n : Int) < k := by omega
    have hk2 : n < k := by omega
    have H := Aside0.mk h
    have hl := h.reads.1
    clear h
    go_enter Tryd.func29, Tryd.ntmps29
    go_wp2
    go_ret
    have e1 : tkS l k = [] := if_neg (by omega)
    have e2 : rsS l k = [] := if_neg (by omega)
    refine ⟨none, 0, none, 0, 0, by rw [e1]; rfl, by rw [e1]; exact ReadsInt.nil _ _, by rw [e1]; exact Nat.le_refl 0, (fun ad q => by cases q), ?_, ((KeptG.refl w g).set 1 _).set 0 _⟩
    rw [e2, decide_eq_false (by omega : ¬ k ≤ l.length), Bool.and_false]
    exact ⟨set_reader (set_reader1 H.out.box _) _, ReadsInt.nil _ _, Nat.le_refl 0, (fun ad q => by cases q)⟩
theorem leD_snoc : ∀ (a : List Int) (b : Int), leD (a ++ [b]) = leD a + 256 ^ a.length * b
  | [], b => by show b + 256 * 0 = 0 + 256 ^ 0 * b; omega
  | x :: a, b => by
    show x + 256 * leD (a ++ [b]) = x + 256 * leD a + 256 ^ (a.length + 1) * b
    rw [leD_snoc a b, Int.pow_succ, Int.mul_add]
    generalize (256 : Int) ^ a.length = q
    rw [Int.mul_comm q 256, Int.mul_assoc]; omega
/-- One byte more. -/
theorem num_step (l : List Int) (hl : Bys l) (h8 : l.length ≤ 8) (i : Nat) (hi : i < l.length) :
    Go.bits .or .u64 (leD (l.take i)) (l.getD i 0 * 2 ^ (8 * i) % 18446744073709551616) = leD (l.take (i + 1)) := by
  have e : l.take (i + 1) = l.take i ++ [l.getD i 0] := by
    rw [List.take_add_one, List.getElem?_eq_getElem hi, List.getD_eq_getElem?_getD, List.getElem?_eq_getElem hi]; rfl
  have hg := hl.get i
  have hb := leD_bnd (l.take i) (hl.take i)
  have hlen : (l.take i).length = i := by rw [List.length_take]; omega
  rw [e, leD_snoc, hlen]
  rw [hlen] at hb
  generalize l.getD i 0 = y at *
  obtain ⟨m, rfl⟩ : ∃ m : Nat, y = m := ⟨y.toNat, by omega⟩
  generalize leD (l.take i) = x at *
  obtain ⟨x, rfl⟩ : ∃ n : Nat, x = n := ⟨x.toNat, by omega⟩
  have hp : (256 : Nat) ^ i = 2 ^ (8 * i) := by rw [Nat.pow_mul]
  have hx : x < 2 ^ (8 * i) := by rw [← hp]; exact Int.ofNat_lt.1 (by rw [Int.natCast_pow]; exact hb.2)
  have hi7 : 2 ^ (8 * i) ≤ 2 ^ 56 := Nat.pow_le_pow_right (by decide) (by omega)
  have hm : m * 2 ^ (8 * i) ≤ 255 * 2 ^ 56 := Nat.le_trans (Nat.mul_le_mul_right _ (by omega : m ≤ 255)) (Nat.mul_le_mul_left _ hi7)
  have e1 : ((m : Int) * 2 ^ (8 * i) % 18446744073709551616) = ((m * 2 ^ (8 * i) : Nat) : Int) := by
    rw [show ((m : Int) * 2 ^ (8 * i)) = ((m * 2 ^ (8 * i) : Nat) : Int) from by rw [Int.natCast_mul, Int.natCast_pow]; rfl]
    omega
  rw [e1, u64_or_nat x (m * 2 ^ (8 * i)) (by omega) (by omega), Nat.or_comm, ← Nat.shiftLeft_eq, ← Nat.shiftLeft_add_eq_or_of_lt hx m, Nat.shiftLeft_eq, Nat.add_comm, Int.natCast_add, Int.natCast_mul, ← hp, Int.natCast_pow, Int.mul_comm]
  rfl
def NPost (w : World) (g : Nat) (l : List Int) (ok : Bool) (k : Nat) (e : Ending) (w' : World) : Prop :=
  ∃ A2 n2 c2, e = .returned (.int .u64 (leD (tkS l k))) ∧ Rd w' g A2 n2 c2 (rsS l k) (ok && decide (k ≤ l.length)) ∧ KeptG w w' g
theorem tkS_bys {l : List Int} (h : Bys l) (k : Nat) : Bys (tkS l k) := by
  unfold tkS
  split
  · exact h.take k
  · intro x hx; cases hx
theorem tkS_le (l : List Int) (k : Nat) : (tkS l k).length ≤ k := by
  unfold tkS
  split
  · rw [List.length_take]; omega
  · exact Nat.zero_le _
set_option maxRecDepth 100000 in
set_option maxHeartbeats 4000000 in
theorem number_call (w : World) (g : Nat) (A : Option Addr) (n c : Nat) (l : List Int) (ok : Bool) (k : Nat) (hk : k ≤ 8) (hb : Bys l) (h : Rd w g A n c l ok) :
    Calls Tryd.prog 28 #[.pointer (some ⟨g, 0, none⟩), .int .i64 (k : Int)] w (NPost w g l ok k) := by
  have TC := Aside0.mk (take_call w g A n c l ok k h)
  have HB := Aside0.mk (tkS_bys hb k)
  have HK := Aside0.mk (Nat.le_trans (tkS_le l k) hk)
  clear h hb hk
  go_enter Tryd.func28, Tryd.ntmps28
  go_wp2_with (first
    | (go_at_call 29; (with_reducible refine (TC.out).mono ?_); rintro e w1 ⟨A1, c1, A2, n2, c2, rfl, hr, hc, hne, hrd, hkp⟩; have HR := Aside0.mk hr; have HRD := Aside0.mk hrd; have HKP := Aside0.mk hkp; clear hr hne hrd hkp))
  obtain ⟨bs, hbs⟩ : ∃ bs, tkS l k = bs := ⟨_, rfl⟩
  rw [hbs] at HR HB HK
  have HBS := Aside0.mk hbs
  rw [hbs]
  clear hbs hc
  go_loopw [5, 12] (fun x i wr => ∃ j : Nat, j ≤ bs.length ∧ i = .int .i64 j ∧ x = .int .u64 (leD (bs.take j)) ∧ w1 = wr) (fun _ i _ => bs.length - (intOf i).toNat)
  case atStart => exact ⟨0, Nat.zero_le _, rfl, rfl, rfl⟩
  case round =>
    obtain ⟨j, hj, rfl, rfl, rfl⟩ := hrel
    have h8 := HK.out
    by_cases hjn : j = bs.length
    · subst hjn
      go_wp2
      go_ret
      exact ⟨A2, n2, c2, by rw [HBS.out, List.take_length]; rfl, HRD.out, HKP.out⟩
    · have hj' : j < bs.length := by omega
      have HJ := Aside0.mk hj'
      obtain ⟨ad, rfl, hcl⟩ := HR.out.2.2 (by omega)
      have cj := hcl j hj'
      have gs := num_step bs HB.out h8 j hj'
      have hy := HB.out.get j
      have hX := leD_bnd (bs.take j) (HB.out.take j)
      obtain ⟨X, hX0⟩ : ∃ X, leD (bs.take j) = X := ⟨_, rfl⟩
      obtain ⟨X', hX1⟩ : ∃ X, leD (bs.take (j + 1)) = X := ⟨_, rfl⟩
      rw [hX0, hX1] at gs
      rw [hX0]
      generalize bs.getD j 0 = yy at *
      have HX1 := Aside0.mk hX1
      have GS := Aside0.mk gs
      clear hX hX0 hX1 hcl gs
      go_wp2
      go_roundw
      case rel => exact ⟨j + 1, HJ.out, by go_num, by rw [HX1.out]; exact congrArg (fun q => Value.int IntKind.u64 q) ((congrArg (fun q => Go.bits .or .u64 X q) (IntKind.wrap_u64 _)).trans GS.out), trivial⟩
      case measure => have := HJ.out; simp [intOf]; omega
set_option maxRecDepth 100000 in
set_option maxHeartbeats 4000000 in
/-- The document's number. -/
theorem rnumber_call (w : World) (A : Option Addr) (n c : Nat) (l : List Int) (hb : Bys l) (hr : ReadsInt w .u8 A n l) (h8 : n ≤ 8) :
    Calls Tryd.prog 30 #[.slice A n c] w fun e w' => e = .returned (.int .u64 (leD l)) ∧ w = w' := by
  have hn := hr.1
  have HR := Aside0.mk hr
  have HB := Aside0.mk hb
  clear hb hr
  go_enter Tryd.func30, Tryd.ntmps30
  go_wp2_with fail
  go_loopw [3, 4] (fun x i wr => ∃ j : Nat, j ≤ n ∧ i = .int .i64 ((j : Int) - 1) ∧ x = .int .u64 (leD (l.drop j)) ∧ w = wr) (fun _ i _ => (intOf i + 1).toNat)
  case atStart => exact ⟨n, Nat.le_refl _, by go_num, by rw [List.drop_eq_nil_of_le (by omega)]; rfl, rfl⟩
  case round =>
    obtain ⟨j, hj, rfl, rfl, rfl⟩ := hrel
    by_cases hj0 : j = 0
    · subst hj0
      go_wp2
      go_ret
      exact ⟨rfl, rfl⟩
    · obtain ⟨j, rfl⟩ : ∃ m, j = m + 1 := ⟨j - 1, by omega⟩
      have hj' : j < n := by omega
      obtain ⟨ad, rfl, hcl⟩ := HR.out.2.2 (by omega)
      have cj := hcl j hj'
      have hd : l.drop j = l.getD j 0 :: l.drop (j + 1) := by
        rw [List.drop_eq_getElem_cons (by omega), List.getD_eq_getElem?_getD, List.getElem?_eq_getElem (by omega)]
        rfl
      have hy := HB.out.get j
      have hX := leD_bnd (l.drop (j + 1)) (HB.out.drop _)
      have hlen : (l.drop (j + 1)).length ≤ 7 := by rw [List.length_drop]; omega
      have hX7 : leD (l.drop (j + 1)) < 72057594037927936 := by
        have h2 : ((256 ^ (l.drop (j + 1)).length : Nat) : Int) ≤ ((256 ^ 7 : Nat) : Int) := Int.ofNat_le.2 (Nat.pow_le_pow_right (by decide) hlen)
        rw [Int.natCast_pow] at h2
        have h7 : ((256 ^ 7 : Nat) : Int) = 72057594037927936 := by decide
        have h3 := hX.2
        rw [h7] at h2
        exact Int.lt_of_lt_of_le h3 h2
      have hD : leD (l.drop j) = l.getD j 0 + 256 * leD (l.drop (j + 1)) := by rw [hd]; rfl
      have HD := Aside0.mk hD
      obtain ⟨X, hX0⟩ : ∃ X, leD (l.drop (j + 1)) = X := ⟨_, rfl⟩
      have hX0' := hX.1
      rw [hX0] at HD hX7 hX0'
      rw [hX0]
      generalize l.getD j 0 = yy at *
      have he : ((j + 1 : Nat) : Int) - 1 = (j : Int) := by omega
      rw [he]
      have hjn : (j : Int) < n := by omega
      have hj00 : (0 : Int) ≤ j := by omega
      clear hX hX0 hcl hd hD he hlen
      go_wp2
      go_roundw
      case rel => exact ⟨j, by omega, by go_num, by rw [HD.out, Int.add_comm], trivial⟩
      case measure => simp [intOf]
end Go.Proofs.YtnljnccfpkpgfaaDoor.RomWalk
