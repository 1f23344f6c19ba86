/- The document's memory (camshaftref02), walked. -/
import Derived.Test.YtiogbgjeimdgmaaRefB
namespace Go.Proofs.Ytiogbgjeimdgmaa.RefWalk
open Go.RowKit Go.Proofs.Ytiogbgjeimdgmaa.Aid Go.Proofs.YtiogbgjeimdgmaaW.PrintWords Go.Proofs.YtiogbgjeimdgmaaW.PrintLast Go.Proofs.YtiogbgjeimdgmaaW.PrintMore
open Go.Proofs.Ytiogbgjeimdgmaa.MmuWalk (Chg R32 leN_snoc)
open Go.Proofs.Ytiogbgjeimdgmaa.RamWalk (Bytes leN leN_bounds putL putL_length putL_bytes grown_put grown_drewN grown_refl grown_drew info5)
attribute [local go_sem] max2_int min2_int max_two min_two max_three min_three max_four min_four   -- for this text's walks alone
set_option linter.unusedVariables false
set_option linter.unusedSimpArgs false
theorem there_call (w : World) (base g b c : Nat) (l : List Int) (at_ n : Int) (ha : R32 at_) (h : RRamAt w base g (.slice (some ⟨b, 0, none⟩) l.length c) l) :
    Calls Try.prog 55 #[.pointer (some ⟨g, 0, none⟩), .int .u32 at_, .int .i64 n] w fun e w' => e = .returned (.bool (decide (0 ≤ n ∧ at_ + n ≤ l.length))) ∧ w = w' := by
  obtain ⟨-, hc, hf⟩ := h.field
  have hm := h.2.2.2.2
  have ha0 := ha.1
  have ha1 := ha.2
  clear h ha
  generalize l.length = len at *
  by_cases h1 : 0 ≤ n
  · by_cases h2 : n ≤ len
    · have e1 : wrap64 ((len : Int) - n) = len - n := wrap64_in (by omega) (by omega)
      by_cases h3 : at_ + n ≤ len
      · have h4 : at_ ≤ (len : Int) - n := by omega
        rw [decide_eq_true (show 0 ≤ n ∧ at_ + n ≤ len from ⟨h1, h3⟩)]
        go_enter Try.func55, Try.ntmps55
        go_wp2
        go_ret
        first | exact ⟨rfl, rfl⟩ | exact ⟨congrArg (fun q => Ending.returned (Value.bool q)) (decide_eq_true (by omega)), rfl⟩
      · have h4 : ¬ at_ ≤ (len : Int) - n := by omega
        rw [decide_eq_false (show ¬ (0 ≤ n ∧ at_ + n ≤ len) by omega)]
        go_enter Try.func55, Try.ntmps55
        go_wp2
        go_ret
        first | exact ⟨rfl, rfl⟩ | exact ⟨congrArg (fun q => Ending.returned (Value.bool q)) (decide_eq_false (by omega)), rfl⟩
    · rw [decide_eq_false (show ¬ (0 ≤ n ∧ at_ + n ≤ len) by omega)]
      go_enter Try.func55, Try.ntmps55
      go_wp2
      go_ret
      first | exact ⟨rfl, rfl⟩ | exact ⟨congrArg (fun q => Ending.returned (Value.bool q)) (decide_eq_false (by omega)), rfl⟩
  · rw [decide_eq_false (show ¬ (0 ≤ n ∧ at_ + n ≤ len) by omega)]
    go_enter Try.func55, Try.ntmps55
    go_wp2
    go_ret
    first | exact ⟨rfl, rfl⟩ | exact ⟨congrArg (fun q => Ending.returned (Value.bool q)) (decide_eq_false (by omega)), rfl⟩
theorem there_yes (w : World) (base g b c : Nat) (l : List Int) (at_ n : Int) (ha : R32 at_) (h : RRamAt w base g (.slice (some ⟨b, 0, none⟩) l.length c) l) (h1 : 0 ≤ n) (h2 : at_ + n ≤ l.length) :
    Calls Try.prog 55 #[.pointer (some ⟨g, 0, none⟩), .int .u32 at_, .int .i64 n] w fun e w' => e = .returned (.bool true) ∧ w = w' := by
  have := there_call w base g b c l at_ n ha h
  rwa [decide_eq_true ⟨h1, h2⟩] at this
theorem there_no (w : World) (base g b c : Nat) (l : List Int) (at_ n : Int) (ha : R32 at_) (h : RRamAt w base g (.slice (some ⟨b, 0, none⟩) l.length c) l) (h1 : ¬ (0 ≤ n ∧ at_ + n ≤ l.length)) :
    Calls Try.prog 55 #[.pointer (some ⟨g, 0, none⟩), .int .u32 at_, .int .i64 n] w fun e w' => e = .returned (.bool false) ∧ w = w' := by
  have := there_call w base g b c l at_ n ha h
  rwa [decide_eq_false h1] at this
theorem rget_bus (w : World) (base g b c : Nat) (l : List Int) (at_ : Int) (ha : R32 at_) (h : RRamAt w base g (.slice (some ⟨b, 0, none⟩) l.length c) l) (h1 : ¬ at_ + 4 ≤ l.length) :
    Calls Try.prog 50 #[.pointer (some ⟨g, 0, none⟩), .int .u32 at_, .int .i64 4] w fun e w' => e = .returned (.tuple #[.int .u32 0, .int .i64 6]) ∧ w = w' := by
  have A := Aside0.mk (there_no w base g b c l at_ 4 ha h (fun c => h1 c.2))
  clear h1 h ha
  go_enter Try.func50, Try.ntmps50
  go_wp2_with (first | (go_at_call 55; ((with_reducible refine (A.out).mono ?_); rintro e w' ⟨rfl, rfl⟩)))
  go_ret2
  exact ⟨rfl, rfl⟩
/-- The scale behind k bytes. -/
def scale (k : Nat) : Int := 256 ^ k % 4294967296
set_option maxRecDepth 100000 in
theorem rget_ok (w : World) (base g b c : Nat) (l : List Int) (hb : Bytes l) (at_ : Nat) (ha : at_ < 4294967296) (h : RRamAt w base g (.slice (some ⟨b, 0, none⟩) l.length c) l) (h1 : at_ + 4 ≤ l.length) :
    Calls Try.prog 50 #[.pointer (some ⟨g, 0, none⟩), .int .u32 at_, .int .i64 4] w fun e w' => e = .returned (.tuple #[.int .u32 (leN ((l.drop at_).take 4)), .int .i64 0]) ∧ w = w' := by
  have A := Aside0.mk (there_yes w base g b c l at_ 4 ⟨by omega, by omega⟩ h (by decide) (by omega))
  obtain ⟨-, hc, hf⟩ := h.field
  have hm := h.2.2.2.2
  have HH := Aside0.mk h
  have HB := Aside0.mk hb
  have hat : at_ < 16777216 := by omega
  clear h hb
  go_enter Try.func50, Try.ntmps50
  go_wp2_with (first | (go_at_call 55; ((with_reducible refine (A.out).mono ?_); rintro e w' ⟨rfl, rfl⟩)))
  go_loopw [8, 9, 10] (fun x s i wr => ∃ k : Nat, k ≤ 4 ∧ i = .int .i64 k ∧ s = .int .u32 (scale k) ∧ x = .int .u32 (leN ((l.drop at_).take k)) ∧ w = wr) (fun _ _ i _ => 4 - (intOf i).toNat)
  case atStart => exact ⟨0, Nat.zero_le _, rfl, rfl, rfl, rfl⟩
  case round =>
    obtain ⟨k, hk, rfl, rfl, rfl, rfl⟩ := hrel
    by_cases hk4 : k = 4
    · subst hk4
      go_wp2
      go_ret2
      exact ⟨rfl, rfl⟩
    · have hk' : k < 4 := by omega
      have cj := HH.out.byte (at_ + k) (by omega)
      have hy := HB.out.get (at_ + k)
      have e : (l.drop at_).take (k + 1) = (l.drop at_).take k ++ [l.getD (at_ + k) 0] := by
        have hd : at_ + k < l.length := by omega
        rw [List.take_add_one, List.getElem?_drop, List.getElem?_eq_getElem hd, List.getD_eq_getElem?_getD, List.getElem?_eq_getElem hd]; rfl
      have hl := leN_bounds ((l.drop at_).take k) ((HB.out.drop _).take _)
      have hlen : ((l.drop at_).take k).length = k := by rw [List.length_take, List.length_drop]; omega
      have hX : leN ((l.drop at_).take (k + 1)) = leN ((l.drop at_).take k) + 256 ^ k * l.getD (at_ + k) 0 := by rw [e, leN_snoc, hlen]
      rw [hlen] at hl
      have HX := Aside0.mk hX
      have HK := Aside0.mk hk'
      clear hX e hlen
      generalize l.getD (at_ + k) 0 = y at *
      obtain ⟨X, hXe⟩ : ∃ X, leN ((l.drop at_).take k) = X := ⟨_, rfl⟩
      rw [hXe] at hl ⊢
      have HXE := Aside0.mk hXe
      clear hXe
      have : k = 0 ∨ k = 1 ∨ k = 2 ∨ k = 3 := by omega
      have hs : ∃ s s' : Int, scale k = s ∧ scale (k + 1) = s' ∧ s * 256 % 4294967296 = s' ∧ y * s % 4294967296 = y * s ∧ (X + y * s) % 4294967296 = X + y * s ∧ (256 : Int) ^ k = s ∧ 0 ≤ y * s := by
        rcases this with rfl | rfl | rfl | rfl
        · exact ⟨1, 256, by decide, by decide, by decide, by omega, by simp only [Int.pow_zero] at hl; omega, by decide, by omega⟩
        · exact ⟨256, 65536, by decide, by decide, by decide, by omega, by have : (256 : Int) ^ 1 = 256 := by decide
                                                                           omega, by decide, by omega⟩
        · exact ⟨65536, 16777216, by decide, by decide, by decide, by omega, by have : (256 : Int) ^ 2 = 65536 := by decide
                                                                                omega, by decide, by omega⟩
        · exact ⟨16777216, 0, by decide, by decide, by decide, by omega, by have : (256 : Int) ^ 3 = 16777216 := by decide
                                                                            omega, by decide, by omega⟩
      obtain ⟨s, s', e1, e2, e3, e4, e5, e6, e7⟩ := hs
      rw [e1]
      have E2 := Aside0.mk e2
      have E6 := Aside0.mk e6
      clear e1 e2 e6 this hl hk4
      generalize hys : y * s = ys at *
      have HYS := Aside0.mk hys
      go_wp2
      go_roundw
      case rel => exact ⟨k + 1, HK.out, by go_num, by rw [E2.out]; first | rfl | rw [e3], by rw [HX.out, HXE.out, E6.out, Int.mul_comm s y, HYS.out], trivial⟩
      case measure => have := HK.out; simp [intOf]; omega
theorem rput_bus (w : World) (base g b c : Nat) (l : List Int) (at_ x : Int) (ha : R32 at_) (h : RRamAt w base g (.slice (some ⟨b, 0, none⟩) l.length c) l) (h1 : ¬ at_ + 4 ≤ l.length) :
    Calls Try.prog 44 #[.pointer (some ⟨g, 0, none⟩), .int .u32 at_, .int .u32 x, .int .i64 4] w fun e w' => e = .returned (.int .i64 6) ∧ w = w' := by
  have A := Aside0.mk (there_no w base g b c l at_ 4 ha h (fun c => h1 c.2))
  clear h1 h ha
  go_enter Try.func44, Try.ntmps44
  go_wp2_with (first | (go_at_call 55; ((with_reducible refine (A.out).mono ?_); rintro e w' ⟨rfl, rfl⟩)))
  go_ret
  exact ⟨rfl, rfl⟩
theorem pow8_step (x : Int) (k : Nat) : x / 2 ^ (8 * k) / 256 = x / 2 ^ (8 * (k + 1)) := by
  rw [Int.ediv_ediv_of_nonneg (Int.le_of_lt (Int.pow_pos (by decide))), show 8 * (k + 1) = 8 * k + 8 from by omega, Int.pow_add]; rfl
set_option maxRecDepth 100000 in
theorem rput_ok (w : World) (base g b c : Nat) (l : List Int) (at_ : Nat) (x : Int) (hx : R32 x) (ha : at_ < 4294967296) (h : RRamAt w base g (.slice (some ⟨b, 0, none⟩) l.length c) l) (h1 : at_ + 4 ≤ l.length) :
    Calls Try.prog 44 #[.pointer (some ⟨g, 0, none⟩), .int .u32 at_, .int .u32 x, .int .i64 4] w fun e w' => e = .returned (.int .i64 0) ∧ RRamAt w' base g (.slice (some ⟨b, 0, none⟩) l.length c) (putL l at_ x 4) ∧ w.grownBy w' (some b) := by
  have A := Aside0.mk (there_yes w base g b c l at_ 4 ⟨by omega, by omega⟩ h (by decide) (by omega))
  have hl := h.2.2.2.2
  have HR := Aside0.mk h
  have HX := Aside0.mk hx
  have hat : at_ < 16777216 := by omega
  clear h hx
  go_enter Try.func44, Try.ntmps44
  go_wp2_with (first | (go_at_call 55; ((with_reducible refine (A.out).mono ?_); rintro e w' ⟨rfl, rfl⟩)))
  go_loopw [2, 9] (fun y i wr => ∃ k : Nat, k ≤ 4 ∧ i = .int .i64 k ∧ y = .int .u32 (x / 2 ^ (8 * k)) ∧ Aside0 (RRamAt wr base g (.slice (some ⟨b, 0, none⟩) l.length c) (putL l at_ x k)) ∧ Aside0 (w.grownBy wr (some b))) (fun _ i _ => 4 - (intOf i).toNat)
  case atStart => exact ⟨0, Nat.zero_le _, rfl, by rw [Nat.mul_zero, Int.pow_zero, Int.ediv_one], HR, ⟨grown_refl _ _⟩⟩
  case round =>
    obtain ⟨k, hk, rfl, rfl, R, G⟩ := hrel
    obtain ⟨-, hc, hf⟩ := R.out.field
    have hfr := R.out.free (at_ + k)
    by_cases hk4 : k = 4
    · subst hk4
      go_wp2
      go_ret
      exact ⟨rfl, R.out, G.out⟩
    · have hk' : k < 4 := by omega
      have hcb := R.out.byte (at_ + k) (by omega)
      have HK := Aside0.mk hk'
      have h0 : 0 ≤ x / 2 ^ (8 * k) := Int.ediv_nonneg HX.out.1 (Int.le_of_lt (Int.pow_pos (by decide)))
      have hb1 : x / 2 ^ (8 * k) < 4294967296 := by have h1 := Int.ediv_le_self (b := 2 ^ (8 * k)) HX.out.1; have h2 := HX.out.2; omega
      have hs := pow8_step x k
      have hp : putL l at_ x (k + 1) = (putL l at_ x k).set (at_ + k) (x / 2 ^ (8 * k) % 256) := rfl
      have HP := Aside0.mk hp
      obtain ⟨z, hz⟩ : ∃ z, x / 2 ^ (8 * (k + 1)) = z := ⟨_, rfl⟩
      rw [hz] at hs
      have HZ := Aside0.mk hz
      obtain ⟨y, hy⟩ : ∃ y, x / 2 ^ (8 * k) = y := ⟨_, rfl⟩
      rw [hy] at h0 hb1 hs ⊢
      have HY := Aside0.mk hy
      have e1 : Int.tmod y 256 = y % 256 := Int.tmod_eq_emod_of_nonneg h0
      have e2 : Int.tdiv y 256 = z := by rw [Int.tdiv_eq_ediv_of_nonneg h0, hs]
      have e3 : z % 4294967296 = z := by omega
      have e4 : y % 256 % 256 = y % 256 := by omega
      clear hz hy hp hk4
      generalize (putL l at_ x k).getD (at_ + k) 0 = old at *
      go_wp2
      go_roundw
      case rel => exact ⟨k + 1, HK.out, by go_num, by first | (rw [HZ.out]; done) | (rw [HZ.out, hs]; done) | (rw [HZ.out, e3]; done), ⟨by rw [HP.out, HY.out]; exact R.out.put (at_ + k) _⟩, ⟨grown_put G.out _ _⟩⟩
      case measure => have := HK.out; simp [intOf]; omega
theorem lay_next (l ys : List Int) (k : Nat) (hl : l.length = ys.length) (hk : k < ys.length) : (ys.take k ++ l.drop k).set k (ys.getD k 0) = ys.take (k + 1) ++ l.drop (k + 1) := by
  have hlt : (ys.take k).length = k := by rw [List.length_take]; omega
  rw [List.set_append_right _ _ (by omega), hlt, Nat.sub_self, List.drop_eq_getElem_cons (by omega : k < l.length), List.set_cons_zero, List.take_add_one, List.getElem?_eq_getElem hk, List.getD_eq_getElem?_getD, List.getElem?_eq_getElem hk, List.append_assoc]
  rfl
set_option maxRecDepth 100000 in
theorem rload_all (w : World) (base g b c m : Nat) (l ys : List Int) (A : Option Addr) (cap : Nat) (hm : ys.length = m) (hl : l.length = m) (h : RRamAt w base g (.slice (some ⟨b, 0, none⟩) m c) l) (hy : ReadsInt w .u8 A m ys) (hA : ∀ a, A = some a → 0 < m → a.block ≠ b) :
    Calls Try.prog 17 #[.pointer (some ⟨g, 0, none⟩), .int .u32 0, .slice A m cap] w fun e w' => e = .returned (.int .i64 0) ∧ RRamAt w' base g (.slice (some ⟨b, 0, none⟩) m c) ys ∧ w.grownBy w' (some b) := by
  subst hm
  rw [← hl] at h
  have T := Aside0.mk (there_yes w base g b c l 0 l.length ⟨by decide, by decide⟩ h (by omega) (by omega))
  have hm := h.2.2.2.2
  have HR := Aside0.mk h
  have HY := Aside0.mk hy
  have HA := Aside0.mk hA
  rw [hl] at hm T HR
  have HL := Aside0.mk hl
  clear h hy hA hl
  go_enter Try.func17, Try.ntmps17
  go_wp2_with (first | (go_at_call 55; ((with_reducible refine (T.out).mono ?_); rintro e w' ⟨rfl, rfl⟩)))
  go_loopw [17] (fun i wr => ∃ k : Nat, k ≤ ys.length ∧ i = .int .i64 k ∧ Aside0 (RRamAt wr base g (.slice (some ⟨b, 0, none⟩) ys.length c) (ys.take k ++ l.drop k)) ∧ Aside0 (w.grownBy wr (some b))) (fun i _ => ys.length - (intOf i).toNat)
  case atStart => exact ⟨0, Nat.zero_le _, rfl, HR, ⟨grown_refl _ _⟩⟩
  case round =>
    obtain ⟨k, hk, rfl, R, G⟩ := hrel
    obtain ⟨-, hc, hf⟩ := R.out.field
    have hfr := R.out.free k
    by_cases hkn : k = ys.length
    · subst hkn
      go_wp2
      go_ret
      refine ⟨rfl, ?_, G.out⟩
      have := R.out
      rwa [List.take_length, List.drop_of_length_le (by rw [HL.out]; exact Nat.le_refl _), List.append_nil] at this
    · have hk' : k < ys.length := by omega
      obtain ⟨ad, rfl, hcell⟩ := HY.out.2.2 (by omega)
      have c0 := hcell k hk'
      have cl := World.block_lt_of_cell? w _ c0
      have hbk : (ad.add k).block = ad.block := by unfold Addr.add; split <;> rfl
      have cj := (World.cell?_of_block (w := w) (G.out.block _ cl (by rw [hbk]; exact fun e => HA.out ad rfl (by omega) (Option.some.inj e)))).trans c0
      have hcb := R.out.byte k (by omega)
      have HK := Aside0.mk hk'
      have NX := Aside0.mk (lay_next l ys k HL.out hk')
      clear hcell c0 cl hbk hkn
      generalize (ys.take k ++ l.drop k).getD k 0 = old at *
      generalize ys.getD k 0 = y at *
      go_wp2
      go_roundw
      case rel => exact ⟨k + 1, HK.out, by go_num, ⟨by rw [← NX.out]; exact R.out.put k _⟩, ⟨grown_put G.out _ _⟩⟩
      case measure => have := HK.out; simp [intOf]; omega
theorem rmade_at (w : World) (k : Nat) (hk : k ≤ 16777216) : RRamAt ((w.alloc (.cells (madeCells #[.int .u8 0] k) 5)).alloc (.cells #[.slice (some ⟨w.heap.size, 0, none⟩) k k] 51)) w.heap.size (w.heap.size + 1) (.slice (some ⟨w.heap.size, 0, none⟩) k k) (List.replicate k 0) := by
  have ho := own_made' w w.heap.size 5 .u8 k (Nat.le_refl _) (by omega)
  refine ⟨?_, by omega, own_alloc ho _, ⟨_, k, by rw [List.length_replicate]⟩, by rw [List.length_replicate]; exact hk⟩
  have := blk_new (w.alloc (.cells (madeCells #[.int .u8 0] k) 5)) (.cells #[.slice (some ⟨w.heap.size, 0, none⟩) k k] 51)
  simpa using this
theorem rnew_call (n : Nat) (w : World) (hn : n ≤ 16777216) :
    Calls Try.prog 15 #[.int .i64 n] w fun e w' => ∃ g b, e = .returned (.pointer (some ⟨g, 0, none⟩)) ∧ RRamAt w' w.heap.size g (.slice (some ⟨b, 0, none⟩) n n) (List.replicate n 0) ∧ Below w.heap.size w w' := by
  have hmk := print_make_int (P := Try.prog) 22 5 (.int .u8 0) 1 Try.underlying22 info5 rfl (by decide) n (by omega) (by omega)
  rw [Int.toNat_natCast] at hmk
  go_enter Try.func15, Try.ntmps15
  go_wp2
  go_ret
  exact ⟨w.heap.size + 1, w.heap.size, rfl, rmade_at w n hn, (below_alloc (below_alloc (Below.refl _ _) _) _)⟩
end Go.Proofs.Ytiogbgjeimdgmaa.RefWalk
