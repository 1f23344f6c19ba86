/- The document's MMU: Store's contract; Load and Bytes, walked. -/
import Derived.Test.YtiogbgjeimdgmaaRefJ
namespace Go.Proofs.Ytiogbgjeimdgmaa.RefWalk
open Go.RowKit Go.Proofs.Ytiogbgjeimdgmaa.Aid Go.Proofs.YtiogbgjeimdgmaaW.PrintWords Go.Proofs.YtiogbgjeimdgmaaW.PrintLast Go.Proofs.YtiogbgjeimdgmaaW.PrintMore
open Go.Proofs.Ytiogbgjeimdgmaa.MmuWalk (Chg R32 Flt fltV noF flt infoF Tabs row_ty own_keep two_ty box1 row_then flt3_put Pc Pcs Pcs.good Pcs.fitN Pcs.r Pcs.total Pcs.sum Pcs.len markP markL marks lays sumN storeP storeL loadL reads_chg szI szI_le byL byL_length byL_next byL_bytes own_put3)
open Go.Proofs.Ytiogbgjeimdgmaa.RamWalk (Bytes leN info5)
open Go.Proofs.Ytiogbgjeimdgmaa.TlbWalk (RefAt own_then own_val own_some)
attribute [local go_sem] max2_int min2_int max_two min_two max_three min_three max_four min_four   -- for this text's walks alone
set_option linter.unusedVariables false
set_option linter.unusedSimpArgs false
theorem rstore_call (w : World) (base : Nat) (L : LocR) (vp ve : Value) (T : Tabs) (pl : Bool) (ps : List (Int × Int)) (l : List Int) (va : Int) (u : Bool) (A : Option Addr) (n c : Nat) (bs : List Int) (xs : List Pc) (fk fv fi : Int) (ps' : List (Int × Int)) (hlen : bs.length = n) (hv : R32 va) (hn : n ≤ 65536) (hb : Bytes bs) (hr : ReadsInt w .u8 A n bs) (hA : ∀ a, A = some a → 0 < n → ¬ rfoot L vp ve a.block) (hp : Pcs T l u true (!pl) ps va n xs (fk, fv, fi) ps') (h : RmAt w base L vp ve T pl ps l) :
    Calls Try.prog 45 #[.pointer (some ⟨L.m, 0, none⟩), .int .u32 va, .bool u, .slice A n c] w fun e w' => e = .returned (.agg #[.int .i64 fk, .int .u32 fv, .int .u32 fi]) ∧ RStep w w' base L vp ve T pl (storeP T xs fk ps' l) (storeL T xs fk ps' l bs) := by
  unfold storeP storeL
  by_cases hk : fk = 0
  · have := hp.good.1 hk
    simp only [noF, Prod.mk.injEq] at this
    obtain ⟨rfl, rfl, rfl⟩ := this
    rw [if_pos rfl, if_pos rfl]
    exact rstore_fine w base L vp ve T pl ps l va u A n c bs xs ps' hlen hv hn hb hr hA hp h
  · rw [if_neg hk, if_neg hk]
    exact rstore_flt w base L vp ve T pl ps l va u A n c xs fk fv fi ps' hv hn hp (beq_eq_false_iff_ne.mpr hk) h
set_option maxRecDepth 100000 in
theorem rbytes_call (w : World) (x n : Int) (hx : R32 x) :
    Calls Try.prog 46 #[.int .u32 x, .int .i64 n] w fun e w' => ∃ A c, e = .returned (.slice A (szI n).toNat c) ∧ w'.ownsRow w.heap.size 5 1 (.slice A (szI n).toNat c) (szI n).toNat (nums .u8 (byL x (szI n).toNat)) ∧ Below w.heap.size w w' := by
  have hsz := szI_le n
  obtain ⟨k, hk⟩ : ∃ k : Nat, szI n = k := ⟨(szI n).toNat, by omega⟩
  have hke : (n ≤ k ∨ k = 4) ∧ (∀ j : Nat, j < k → (j : Int) < n) := by
    unfold szI at hk
    by_cases h0 : n < 0
    · rw [if_pos h0, if_neg (by decide)] at hk
      exact ⟨.inl (by omega), fun j hj => by omega⟩
    · rw [if_neg h0] at hk
      by_cases h4 : 4 < n
      · rw [if_pos h4] at hk
        exact ⟨.inr (by omega), fun j hj => by omega⟩
      · rw [if_neg h4] at hk
        exact ⟨.inl (by omega), fun j hj => by omega⟩
  rw [hk, Int.toNat_natCast]
  have HK := Aside0.mk (And.intro hke (show k ≤ 4 by omega))
  have HX := Aside0.mk hx
  clear hx hsz hk hke
  go_enter Try.func46, Try.ntmps46
  go_wp2_with fail
  go_loopw [0, 5, 6] (fun a b i wr => ∃ j : Nat, j ≤ k ∧ i = .int .i64 j ∧ a = .int .u32 (x / 2 ^ (8 * j)) ∧ Aside0 (Below w.heap.size w wr) ∧ Aside0 (wr.ownsRow w.heap.size 5 1 b j (nums .u8 (byL x j)))) (fun _ _ i _ => k - (intOf i).toNat)
  case atStart => exact ⟨0, Nat.zero_le _, rfl, by rw [Nat.mul_zero, Int.pow_zero, Int.ediv_one], ⟨Below.refl _ _⟩, ⟨World.ownsRow_nil _ _ _ _⟩⟩
  case round =>
    obtain ⟨j, hj, rfl, rfl, B, O⟩ := hrel
    by_cases hjk : j = k
    · obtain ⟨A1, c1, rfl⟩ := own_val O.out
      have HE := Aside0.mk hjk
      have HE2 := Aside0.mk (show byL x j = byL x k by rw [hjk])
      by_cases h4 : (j : Int) < n
      · have h5 : ¬ (j : Int) < 4 := by have := HK.out; omega
        clear hjk
        go_wp2
        go_ret
        refine ⟨A1, c1, by rw [← HE.out]; rfl, ?_, B.out⟩
        have q := O.out
        rw [HE2.out, HE.out] at q
        exact q
      · clear hjk
        go_wp2
        go_ret
        refine ⟨A1, c1, by rw [← HE.out]; rfl, ?_, B.out⟩
        have q := O.out
        rw [HE2.out, HE.out] at q
        exact q
    · have hj' : j < k := by omega
      have h4 : (j : Int) < n := HK.out.1.2 j hj'
      have h5 : (j : Int) < 4 := by have := HK.out.2; omega
      have h0 : 0 ≤ x / 2 ^ (8 * j) := Int.ediv_nonneg HX.out.1 (Int.le_of_lt (Int.pow_pos (by decide)))
      have hs := pow8_step x j
      have hb1 : x / 2 ^ (8 * j) < 4294967296 := by have h1 := Int.ediv_le_self (b := 2 ^ (8 * j)) HX.out.1; have h2 := HX.out.2; omega
      have HN := Aside0.mk (byL_next x j)
      have hlen : (byL x j).length = j := byL_length x j
      have HRO := Aside0.mk (show wr.ownsRow w.heap.size 5 1 u5 (byL x j).length (nums .u8 (byL x j)) by rw [hlen]; exact O.out)
      have HLE := Aside0.mk hlen
      clear hlen
      obtain ⟨z, hz⟩ : ∃ z, x / 2 ^ (8 * (j + 1)) = z := ⟨_, rfl⟩
      rw [hz] at hs
      have HZ := Aside0.mk hz
      obtain ⟨y, hy⟩ : ∃ y, x / 2 ^ (8 * j) = y := ⟨_, rfl⟩
      rw [hy] at h0 hb1 hs ⊢
      have HY := Aside0.mk hy
      have e1 : Int.tmod y 256 = y % 256 := Int.tmod_eq_emod_of_nonneg h0
      have e2 : Int.tdiv y 256 = z := by rw [Int.tdiv_eq_ediv_of_nonneg h0, hs]
      have e3 : z % 4294967296 = z := by omega
      have e4 : y % 256 % 256 = y % 256 := by omega
      have HJ := Aside0.mk hj'
      clear hz hy hjk
      go_wp2_with (first
        | (at_builtin; refine print_append_num (w0 := w) w.heap.size rfl (.tmp 16) (.tmp 20) 22 5 .u8 1 rfl Try.underlying22 info5 (by decide) u5 (byL x j) (y % 256) rfl (by simp [Act.eval]) HRO.out B.out B.out.size (by rw [HLE.out]; omega) ?_; intro o1 w1 ho1 hb1 hg1 hat1; rw [List.length_append, HLE.out] at ho1; have O1 := Aside0.mk ho1; have B1 := Aside0.mk hb1; clear ho1 hb1 hg1 hat1))
      go_roundw
      case rel => exact ⟨j + 1, HJ.out, by go_num, by first | (rw [HZ.out]; done) | (rw [HZ.out, e3]; done) | (rw [HZ.out, hs]; done), B1, ⟨by rw [HN.out, HY.out]; exact O1.out⟩⟩
      case measure => have := HJ.out; simp [intOf]; omega
end Go.Proofs.Ytiogbgjeimdgmaa.RefWalk
