/- The MMU's Store: its contract; Put, walked. -/
import Derived.Test.YtiogbgjeimdgmaaMmuZ
namespace Go.Proofs.Ytiogbgjeimdgmaa.MmuWalk
open Go.RowKit Go.Proofs.Ytiogbgjeimdgmaa.Aid Go.Proofs.YtiogbgjeimdgmaaW.PrintWords Go.Proofs.YtiogbgjeimdgmaaW.PrintLast Go.Proofs.YtiogbgjeimdgmaaW.PrintMore
open Go.Proofs.Ytiogbgjeimdgmaa.RamWalk (RamAt Bytes leN info5 bytes_n)
open Go.Proofs.Ytiogbgjeimdgmaa.TlbWalk (TlbAt Kept2 putP dropP posP entP nil2 own_some own_val own_then)
attribute [local go_sem] max2_int min2_int max_two min_two max_three min_three max_four min_four   -- for this text's walks alone
set_option linter.unusedVariables false
set_option linter.unusedSimpArgs false
theorem store_call (w : World) (base : Nat) (L : Loc) (v : Value) (T : Tabs) (ps : List (Int × Int)) (l : List Int) (va : Int) (u : Bool) (A : Option Addr) (c : Nat) (bs : List Int) (xs : List Pc) (fk fv fi : Int) (ps' : List (Int × Int)) (hv : R32 va) (hn : bs.length ≤ 65536) (hb : Bytes bs) (hc : bs.length ≤ c) (hr : ReadsInt w .u8 A bs.length bs) (hA : ∀ a, A = some a → 0 < bs.length → ¬ foot L v a.block) (hp : Pcs T l u true true ps va bs.length xs (fk, fv, fi) ps') (h : MmuAt w base L v T ps l) :
    Calls Try.prog 38 #[.pointer (some ⟨L.m, 0, none⟩), .int .u32 va, .bool u, .slice A bs.length c] w fun e w' => e = .returned (.agg #[.int .i64 fk, .int .u32 fv, .int .u32 fi]) ∧ MStep w w' base L v T (storeP T xs fk ps' l) (storeL T xs fk ps' l bs) := by
  unfold storeP storeL
  by_cases hk : fk = 0
  · have := hp.good.1 hk
    simp only [noF, Prod.mk.injEq] at this
    obtain ⟨rfl, rfl, rfl⟩ := this
    rw [if_pos rfl, if_pos rfl]
    exact store_fine w base L v T ps l va u A c bs xs ps' hv hn hb hc hr hA hp h
  · rw [if_neg hk, if_neg hk]
    exact store_flt w base L v T ps l va u A bs.length c xs fk fv fi ps' hv hn hp (beq_eq_false_iff_ne.mpr hk) h
/-- A number's lowest bytes. -/
def byL (x : Int) (n : Nat) : List Int := (List.range n).map fun i => x / 2 ^ (8 * i) % 256
theorem byL_length (x : Int) (n : Nat) : (byL x n).length = n := by unfold byL; rw [List.length_map, List.length_range]
theorem byL_next (x : Int) (j : Nat) : byL x (j + 1) = byL x j ++ [x / 2 ^ (8 * j) % 256] := by
  unfold byL; rw [List.range_succ, List.map_append]; rfl
theorem byL_bytes (x : Int) (n : Nat) : Bytes (byL x n) := by
  intro y hy
  unfold byL at hy
  obtain ⟨i, _, rfl⟩ := List.mem_map.1 hy
  omega
set_option maxRecDepth 100000 in
set_option maxHeartbeats 4000000 in
theorem mput_call (w : World) (base : Nat) (L : Loc) (v : Value) (T : Tabs) (ps : List (Int × Int)) (l : List Int) (va x n : Int) (u : Bool) (xs : List Pc) (fk fv fi : Int) (ps' : List (Int × Int)) (hv : R32 va) (hx : R32 x) (hp : Pcs T l u true true ps va (szI n) xs (fk, fv, fi) ps') (h : MmuAt w base L v T ps l) :
    Calls Try.prog 40 #[.pointer (some ⟨L.m, 0, none⟩), .int .u32 va, .int .u32 x, .int .i64 n, .bool u] w fun e w' => e = .returned (.agg #[.int .i64 fk, .int .u32 fv, .int .u32 fi]) ∧ MStep w w' base L v T (storeP T xs fk ps' l) (storeL T xs fk ps' l (byL x (szI n).toNat)) := by
  have M := Aside0.mk h
  have HV := Aside0.mk hv
  have HP := Aside0.mk hp
  have BX := box1 w (.cells #[.int .i64 0, .int .u32 0, .int .u32 0] 47 (0, 0))
  obtain ⟨W, hW⟩ : ∃ W, w.alloc (.cells #[.int .i64 0, .int .u32 0, .int .u32 0] 47 (0, 0)) = W := ⟨_, rfl⟩
  rw [hW] at BX
  have Z := Aside0.mk BX.2
  have BB := Aside0.mk BX.1
  have hsz := szI_le n
  obtain ⟨n1, hn1⟩ : ∃ n1, (if n < 0 then 0 else n) = n1 := ⟨_, rfl⟩
  obtain ⟨k, hn2⟩ : ∃ k : Nat, szI n = k := ⟨(szI n).toNat, by omega⟩
  have hn3 : (if 4 < n1 then 4 else n1) = (k : Int) := by rw [← hn1, ← hn2]; rfl
  rw [hn2] at HP hsz
  have hk4 : k ≤ 4 := by omega
  have HE : szI n = k := hn2
  rw [HE]
  rw [Int.toNat_natCast]
  obtain ⟨xn, rfl⟩ : ∃ xn : Nat, x = xn := ⟨x.toNat, by have := hx.1; omega⟩
  have hxn : xn < 4294967296 := by have := hx.2; omega
  clear h BX hv hn2 hsz hp HE hx
  go_enter Try.func40, Try.ntmps40
  go_wp2_with fail
  go_loopw [11, 16] (fun b i wr => ∃ j : Nat, j ≤ k ∧ i = .int .i64 j ∧ Aside0 (Below W.heap.size W wr) ∧ Aside0 (wr.ownsRow W.heap.size 5 1 b (byL xn j).length (nums .u8 (byL xn j)))) (fun _ i _ => k - (intOf i).toNat)
  case atStart => exact ⟨0, Nat.zero_le _, rfl, ⟨Below.refl _ _⟩, ⟨World.ownsRow_nil _ _ _ _⟩⟩
  case round =>
    obtain ⟨j, hj, rfl, B, O⟩ := hrel
    obtain ⟨A1, c1, rfl⟩ := own_val O.out
    by_cases hjk : j = k
    · subst hjk
      have MW := Aside0.mk (M.out.then (below_step BB.out B.out))
      have HL := Aside0.mk (byL_length (xn : Int) j)
      have ST := Aside0.mk (fun fk fv fi (hp : Pcs T l u true true ps va (byL xn j).length xs (fk, fv, fi) ps') => store_call wr base L v T ps l va u A1 c1 (byL xn j) xs fk fv fi ps' HV.out (by rw [HL.out]; omega) (byL_bytes _ _) (own_cap O.out) (own_reads' O.out) (fun a ha hpos f => by
        have hb := own_base O.out a.block (by subst ha; rfl)
        have hf := foot_lt M.out _ f
        have := BB.out.size
        omega) hp MW.out)
      have ST := Aside0.mk (ST.out fk fv fi (by rw [HL.out]; exact HP.out))
      go_wp2_with (first
        | (go_at_call 38; (with_reducible refine (ST.out).mono ?_); rintro e w2 ⟨rfl, s⟩; have S := Aside0.mk s; have Z2 := Aside0.mk (box_keep M.out (row_then Z.out B.out) (Nat.le_refl _) s); clear s)
        | (refine wpList_store_row rfl 47 (.tmp 10) (.tmp 32) rfl w.heap.size #[.int .i64 fk, .int .u32 fv, .int .u32 fi] rfl rfl _ _ Z2.out infoF rfl (by kernel_rfl) ?_))
      refine bodyPost_ret (results_cell_row rfl _ _ (w.heap.size) 47 #[.int .i64 fk, .int .u32 fv, .int .u32 fi] (0, 0) _ rfl (setRow_heap _ _ _ _ 47 _ Z2.out) Try.underlying47 rfl infoF) rfl ⟨rfl, MStep.setRow (MStep.after (below_step BB.out B.out) S.out) (Nat.le_refl _) Z2.out (by unfold mTy; decide) _⟩
    · have hj' : j < k := by omega
      have HJ := Aside0.mk hj'
      have HX := Aside0.mk (byL_next (xn : Int) j)
      have hlen : (byL (xn : Int) j).length = j := byL_length _ _
      go_wp2_with (first
        | (at_builtin; refine print_append_num (w0 := W) W.heap.size rfl (.tmp 19) (.tmp 25) 22 5 .u8 1 rfl Try.underlying22 info5 (by decide) (.slice A1 (byL xn j).length c1) (byL xn j) (xn / 2 ^ (8 * j) % 256) rfl (by simp [Act.eval]) O.out B.out B.out.size (by rw [hlen]; omega) ?_; intro o1 w1 ho1 hb1 hg1 hat1; have O1 := Aside0.mk ho1; have B1 := Aside0.mk hb1; clear ho1 hb1 hg1 hat1))
      go_roundw
      case rel => exact ⟨j + 1, HJ.out, by go_num, B1, ⟨by rw [HX.out]; exact O1.out⟩⟩
      case measure => have := HJ.out; simp [intOf]; omega
end Go.Proofs.Ytiogbgjeimdgmaa.MmuWalk
