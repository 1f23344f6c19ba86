/- What the document's Store and Load do, byte by byte, is what the pieces tell. Plain. -/
import Derived.Test.YtiogbgjeimdgmaaRefH
namespace Go.Proofs.Ytiogbgjeimdgmaa.RefWalk
open Go.RowKit Go.Proofs.Ytiogbgjeimdgmaa.Aid Go.Proofs.YtiogbgjeimdgmaaW.PrintWords Go.Proofs.YtiogbgjeimdgmaaW.PrintLast Go.Proofs.YtiogbgjeimdgmaaW.PrintMore
open Go.Proofs.Ytiogbgjeimdgmaa.MmuWalk (R32 Flt noF flt Tabs Pc Pcs Pcs.total stepN stepN_pos findF findP markP markL markS marks lays layS layS_length sumN loadL)
open Go.Proofs.Ytiogbgjeimdgmaa.RamWalk (Bytes leN)
set_option linter.unusedVariables false
set_option linter.unusedSimpArgs false
/-- Marks, byte by byte. -/
def bnd (T : Tabs) (va : Int) (i : Nat) : Prop := T.men ≠ 0 ∧ (i = 0 ∨ (va + (i : Nat)) % 4294967296 % 512 = 0)
instance (T : Tabs) (va : Int) (i : Nat) : Decidable (bnd T va i) := by unfold bnd; infer_instance
def mI (T : Tabs) (va : Int) (s : List (Int × Int) × List Int) : Nat → List (Int × Int) × List Int
  | 0 => s
  | i + 1 => if bnd T va i then markS T (mI T va s i) ((va + (i : Nat)) % 4294967296, 0, 0) else mI T va s i
theorem markS_off (T : Tabs) (hm : T.men = 0) (s : List (Int × Int) × List Int) (p : Pc) : markS T s p = s := by
  unfold markS markP markL
  rw [if_pos hm, if_pos hm]
theorem mI_one (T : Tabs) (va : Int) (hv : R32 va) (s : List (Int × Int) × List Int) (p : Int × Nat) : ∀ k : Nat, 0 < k → (k : Int) ≤ 512 - va % 512 → mI T va s k = markS T s (va, p)
  | 0, h, _ => absurd h (Nat.lt_irrefl _)
  | 1, _, _ => by
    unfold mI mI
    have e : (va + ((0 : Nat) : Int)) % 4294967296 = va := by have := hv.1; have := hv.2; omega
    by_cases hm : T.men = 0
    · rw [if_neg (fun c => c.1 hm), markS_off T hm]
    · rw [if_pos ⟨hm, .inl rfl⟩, e]; rfl
  | k + 2, _, h => by
    have ih := mI_one T va hv s p (k + 1) (by omega) (by omega)
    unfold mI
    rw [if_neg, ih]
    rintro ⟨_, c⟩
    have h1 := hv.1
    have h2 := hv.2
    rcases c with c | c
    · omega
    · omega
theorem mI_add (T : Tabs) (va vb : Int) (k : Nat) (hk : 0 < k) (hb : vb = (va + (k : Nat)) % 4294967296) (h0 : vb % 512 = 0) (s : List (Int × Int) × List Int) : ∀ m, mI T va s (k + m) = mI T vb (mI T va s k) m
  | 0 => rfl
  | m + 1 => by
    have ih := mI_add T va vb k hk hb h0 s m
    have e : (va + ((k + m : Nat) : Int)) % 4294967296 = (vb + (m : Nat)) % 4294967296 := by rw [hb]; omega
    show (if bnd T va (k + m) then markS T (mI T va s (k + m)) ((va + ((k + m : Nat) : Int)) % 4294967296, 0, 0) else mI T va s (k + m)) = if bnd T vb m then markS T (mI T vb (mI T va s k) m) ((vb + (m : Nat)) % 4294967296, 0, 0) else mI T vb (mI T va s k) m
    have hc : bnd T va (k + m) ↔ bnd T vb m := by
      unfold bnd
      rw [e]
      constructor
      · rintro ⟨a, c⟩
        refine ⟨a, ?_⟩
        rcases c with c | c
        · omega
        · exact .inr c
      · rintro ⟨a, c⟩
        refine ⟨a, .inr ?_⟩
        rcases c with c | c
        · subst c; rw [hb] at h0; rw [hb]; omega
        · exact c
    by_cases h : bnd T va (k + m)
    · rw [if_pos h, if_pos (hc.1 h), ih, e]
    · rw [if_neg h, if_neg (fun c => h (hc.2 c)), ih]
theorem mI_marks {T : Tabs} {l : List Int} {u wr keep : Bool} {ps : List (Int × Int)} {va n : Int} {xs : List Pc} {f : Flt} {ps' : List (Int × Int)} (h : Pcs T l u wr keep ps va n xs f ps') (hv : R32 va) (hf : f.1 = 0) : ∀ s, mI T va s n.toNat = marks T xs s.1 s.2 := by
  induction h with
  | done h => intro s; rw [show Int.toNat _ = 0 from by omega]; rfl
  | stop h hf' => exact absurd hf hf'
  | @more ps0 va0 n0 xs f ps' h hf' k ih =>
    intro s
    have h1 := stepN_pos (va := va0) h
    have hst : stepN va0 n0 = if n0 < 512 - va0 % 512 then n0 else 512 - va0 % 512 := rfl
    obtain ⟨j, hj⟩ : ∃ j : Nat, (j : Int) = stepN va0 n0 := ⟨(stepN va0 n0).toNat, by omega⟩
    have hr : R32 ((va0 + stepN va0 n0) % 4294967296) := ⟨by omega, by omega⟩
    have ih := ih hr hf
    rw [if_pos hf]
    have e0 : marks T ((va0, (findF T ps0 l va0 (stepN va0 n0) u wr).1, (stepN va0 n0).toNat) :: xs) s.1 s.2 = marks T xs (markS T s (va0, 0, 0)).1 (markS T s (va0, 0, 0)).2 := rfl
    rw [e0, ← ih]
    have e1 : n0.toNat = j + (n0 - stepN va0 n0).toNat := by omega
    have hle : (j : Int) ≤ 512 - va0 % 512 := by rw [hj, hst]; split <;> omega
    rw [e1, ← mI_one T va0 hv s (0, 0) j (by omega) hle]
    by_cases hm : n0 - stepN va0 n0 ≤ 0
    · rw [show (n0 - stepN va0 n0).toNat = 0 from by omega]; rfl
    · refine mI_add T va0 _ j (by omega) (by rw [hj]) ?_ s _
      rw [hst] at hm ⊢
      have a0 := hv.1
      have a1 := hv.2
      split at hm
      · omega
      · rename_i hc; rw [if_neg hc]; omega
/-- Bytes laid one by one. -/
def layI : List Int → List Int → List Int → List Int
  | l, a :: zs, b :: bs => layI (l.set a.toNat b) zs bs
  | l, _, _ => l
theorem layI_snoc : ∀ (zs bs : List Int) (l : List Int) (a b : Int), zs.length = bs.length → layI l (zs ++ [a]) (bs ++ [b]) = (layI l zs bs).set a.toNat b
  | [], [], l, a, b, _ => rfl
  | x :: zs, y :: bs, l, a, b, h => layI_snoc zs bs (l.set x.toNat y) a b (by simpa using h)
  | [], y :: bs, l, a, b, h => by simp at h
  | x :: zs, [], l, a, b, h => by simp at h
theorem layI_length : ∀ (zs bs l : List Int), (layI l zs bs).length = l.length
  | [], bs, l => by cases bs <;> rfl
  | a :: zs, [], l => rfl
  | a :: zs, b :: bs, l => (layI_length zs bs (l.set a.toNat b)).trans (by rw [List.length_set])
theorem layI_bytes : ∀ (zs bs l : List Int), Bytes l → Bytes bs → Bytes (layI l zs bs)
  | [], bs, l, h, _ => by cases bs <;> exact h
  | a :: zs, [], l, h, _ => h
  | a :: zs, b :: bs, l, h, k => by
    refine layI_bytes zs bs (l.set a.toNat b) (fun x hx => ?_) (fun x hx => k x (List.mem_cons_of_mem _ hx))
    rcases List.mem_or_eq_of_mem_set hx with hx | rfl
    · exact h x hx
    · exact k x List.mem_cons_self
theorem adr_cons (pa : Int) : ∀ k, adr pa (k + 1) = pa :: adr (pa + 1) k
  | 0 => by unfold adr; simp
  | k + 1 => by
    rw [adr_next, adr_cons pa k, List.cons_append, adr_next (pa + 1) k]
    have e : pa + ((k + 1 : Nat) : Int) = pa + 1 + (k : Nat) := by omega
    rw [e]
theorem layI_piece : ∀ (k : Nat) (pa : Int) (l bs rest : List Int), 0 ≤ pa → pa.toNat + k ≤ l.length → k ≤ bs.length → layI l (adr pa k ++ rest) bs = layI (l.take pa.toNat ++ (bs.take k ++ l.drop (pa.toNat + k))) rest (bs.drop k)
  | 0, pa, l, bs, rest, _, _, _ => by
    rw [List.take_zero, List.nil_append, Nat.add_zero, List.take_append_drop, List.drop_zero]; rfl
  | k + 1, pa, l, [], rest, _, _, h => by simp at h
  | k + 1, pa, l, b :: bs, rest, h0, h1, h2 => by
    have h2 : k ≤ bs.length := by simpa using h2
    have ih := layI_piece k (pa + 1) (l.set pa.toNat b) bs rest (by omega) (by rw [List.length_set]; omega) h2
    have e : (pa + 1).toNat = pa.toNat + 1 := by omega
    rw [adr_cons, List.cons_append]
    show layI (l.set pa.toNat b) (adr (pa + 1) k ++ rest) bs = _
    rw [ih, e, List.drop_succ_cons, List.take_succ_cons]
    congr 1
    have hlt : pa.toNat < l.length := by omega
    rw [List.take_add_one, List.getElem?_set_self hlt, List.take_set_of_le (Nat.le_refl _), List.drop_set_of_lt (by omega : pa.toNat < pa.toNat + 1 + k), show pa.toNat + 1 + k = pa.toNat + (k + 1) from by omega]
    simp
theorem layI_lays : ∀ (xs : List Pc) (l bs : List Int), (∀ p ∈ xs, 0 ≤ p.2.1 ∧ p.2.1.toNat + p.2.2 ≤ l.length) → sumN xs ≤ bs.length → layI l (addrL xs) bs = (lays xs l bs).1
  | [], l, bs, _, _ => by cases bs <;> rfl
  | p :: xs, l, bs, h, hs => by
    have hs' : p.2.2 + sumN xs ≤ bs.length := hs
    obtain ⟨hp0, hp⟩ := h p List.mem_cons_self
    obtain ⟨e1, e2⟩ := layS_length (l, bs) p hp (show p.2.2 ≤ bs.length by omega)
    have e1 : (layS (l, bs) p).1.length = l.length := e1
    have e2 : (layS (l, bs) p).2.length = bs.length - p.2.2 := e2
    have ih := layI_lays xs (layS (l, bs) p).1 (layS (l, bs) p).2 (fun q hq => by rw [e1]; exact h q (List.mem_cons_of_mem _ hq)) (by rw [e2]; omega)
    have ea : addrL (p :: xs) = adr p.2.1 p.2.2 ++ addrL xs := by unfold addrL; rw [List.flatMap_cons]
    rw [ea, layI_piece p.2.2 p.2.1 l bs (addrL xs) hp0 hp (by omega)]
    exact ih
theorem addrL_length : ∀ xs : List Pc, (addrL xs).length = sumN xs
  | [] => rfl
  | p :: xs => by
    have ea : addrL (p :: xs) = adr p.2.1 p.2.2 ++ addrL xs := by unfold addrL; rw [List.flatMap_cons]
    rw [ea, List.length_append, adr_length, addrL_length xs]; rfl
theorem addrL_mem {xs : List Pc} {N : Nat} (h : ∀ p ∈ xs, 0 ≤ p.2.1 ∧ p.2.1.toNat + p.2.2 ≤ N) : ∀ a ∈ addrL xs, 0 ≤ a ∧ a.toNat < N := by
  intro a ha
  unfold addrL at ha
  obtain ⟨p, hp, ha⟩ := List.mem_flatMap.1 ha
  unfold adr at ha
  obtain ⟨i, hi, rfl⟩ := List.mem_map.1 ha
  rw [List.mem_range] at hi
  obtain ⟨h1, h2⟩ := h p hp
  omega
end Go.Proofs.Ytiogbgjeimdgmaa.RefWalk
