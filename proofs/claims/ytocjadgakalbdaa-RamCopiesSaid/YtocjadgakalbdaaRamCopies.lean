/- A copy has the same bytes; what is done to one isn't done to the other: the walk of RamCopies. -/
import Derived.Test.YtocjadgakalbdaaRamF
import Derived.Test.YtocjadgakalbdaaWSized
namespace Go.Proofs.YtocjadgakalbdaaW.PrintWords
open Go.RowKit in
def IsRow (k : IntKind) (w : World) (a : Option Addr) (len cap : Nat) (zs : List Int) : Prop :=
  (a = none ∧ len = 0 ∧ cap = 0 ∧ zs = []) ∨
  ∃ x, a = some x ∧ len ≤ cap ∧ cap ≤ maxLen ∧ zs.length = cap ∧ (∀ i, i < zs.length → w.cell? (x.add i) = some (.int k (zs.getD i 0))) ∧ ∀ n ∈ zs, (Lit.int k n).wf = true
end Go.Proofs.YtocjadgakalbdaaW.PrintWords
namespace Go.Proofs.Ytocjadgakalbdaa.RamWalk
open Go.RowKit Go.Proofs.Ytocjadgakalbdaa.Aid Go.Proofs.YtocjadgakalbdaaW.PrintWords Go.Proofs.YtocjadgakalbdaaW.PrintLast Go.Proofs.YtocjadgakalbdaaW.PrintMore
attribute [local go_sem] max2_int min2_int max_two min_two max_three min_three max_four min_four   -- for this text's walks alone
set_option linter.unusedVariables false
set_option linter.unusedSimpArgs false

theorem copies_long (A : Option Addr) (n cap : Nat) (at_ x : Int) (w : World) (h : 4096 < n) :
    Calls Try.prog 11 #[.slice A n cap, .int .u32 at_, .int .u32 x] w fun e w' => e = .returned (.bool true) ∧ Below w.heap.size w w' := by
  go_enter Try.func11, Try.ntmps11
  go_wp2_with (first
    | (go_at_call 16; (with_reducible refine (alive_call _).mono ?_); rintro e w0 ⟨rfl, hb0⟩; have B0 := Aside0.mk hb0; clear hb0))
  go_ret
  exact ⟨rfl, B0.out⟩

set_option maxHeartbeats 4000000 in
theorem copies_bus (A : Option Addr) (n cap : Nat) (ys : List Int) (at_ x : Int) (w : World) (hn : n ≤ 4096) (hy : ReadsInt w .u8 A n ys) (ha0 : 0 ≤ at_) (ha : at_ < 4294967296) (hx0 : 0 ≤ x) (hx : x < 4294967296) (h : ¬ at_ + 4 ≤ n) :
    Calls Try.prog 11 #[.slice A n cap, .int .u32 at_, .int .u32 x] w fun e w' => e = .returned (.bool true) ∧ Below w.heap.size w w' := by
  have HY := Aside0.mk hy
  have NEW := Aside0.mk (fun w => new_nat n w (by omega))
  have PB := Aside0.mk (fun (w : World) (base g b c : Nat) (l : List Int) (y : Int) (R : RamAt w base g (.slice (some ⟨b, 0, none⟩) n c) l) => put_bus_i w base g b n c l at_ 4 y ha0 ha R (by omega))
  have GB := Aside0.mk (fun (w : World) (base g b c : Nat) (l : List Int) (R : RamAt w base g (.slice (some ⟨b, 0, none⟩) n c) l) => get_bus_i w base g b n c l at_ 4 ha0 ha R (by omega))
  clear hy
  go_enter Try.func11, Try.ntmps11
  go_wp2_with (first
    | (go_at_call 16; (with_reducible refine (alive_call _).mono ?_); rintro e w0 ⟨rfl, hb0⟩; have B0 := Aside0.mk hb0; clear hb0)
    | (go_at_call 17; (with_reducible refine (NEW.out _).mono ?_); rintro e w1 ⟨g, b, rfl, hr, hbel⟩; have R1 := Aside0.mk hr; have B1 := Aside0.mk (below_step B0.out hbel); have hbase := Aside0.mk (Nat.le_trans B0.out.size hr.baseb); clear hr hbel)
    | (go_at_call 22; (with_reducible refine (load_n _ _ _ _ _ _ _ ys _ _ R1.out (HY.out.below B1.out)).mono ?_); rintro e w2 ⟨rfl, hr2, hg2⟩; have R2 := Aside0.mk hr2; have B2 := Aside0.mk ((B1.out).grown hg2 B1.out.size (fun k hk => by simp at hk; subst hk; exact hbase.out)); clear hr2 hg2)
    | (go_at_call 31; (with_reducible refine (copy_n _ _ _ _ _ _ _ R2.out).mono ?_); rintro e w3 ⟨g2, b2, c2, rfl, hr3, hb3⟩; have R3 := Aside0.mk (R2.out.then hb3); have C3 := Aside0.mk hr3; have B3 := Aside0.mk (below_step B2.out hb3); clear hr3 hb3)
    | (go_at_call 19; (with_reducible refine (PB.out _ _ _ _ _ _ _ R3.out).mono ?_); rintro e w' ⟨rfl, rfl⟩)
    | (go_at_call 19; (with_reducible refine (PB.out _ _ _ _ _ _ _ C3.out).mono ?_); rintro e w' ⟨rfl, rfl⟩)
    | (go_at_call 18; (with_reducible refine (size_n _ _ _ _ _ _ _ R3.out).mono ?_); rintro e w' ⟨rfl, rfl⟩)
    | (go_at_call 18; (with_reducible refine (size_n _ _ _ _ _ _ _ C3.out).mono ?_); rintro e w' ⟨rfl, rfl⟩)
    | (go_at_call 20; (with_reducible refine (GB.out _ _ _ _ _ _ R3.out).mono ?_); rintro e w' ⟨rfl, rfl⟩)
    | (go_at_call 20; (with_reducible refine (GB.out _ _ _ _ _ _ C3.out).mono ?_); rintro e w' ⟨rfl, rfl⟩))
  go_ret
  exact ⟨rfl, B3.out⟩

theorem xor_range (x : Int) : 0 ≤ Go.bits .xor .u32 (if IntKind.u32.signed = true then -1 else IntKind.u32.max) x ∧ Go.bits .xor .u32 (if IntKind.u32.signed = true then -1 else IntKind.u32.max) x < 4294967296 := by
  have h : ∀ a b : Int, 0 ≤ Go.bits .xor .u32 a b ∧ Go.bits .xor .u32 a b < 4294967296 := by
    intro a b
    unfold Go.bits
    rw [IntKind.wrap_u32]
    exact ⟨Int.emod_nonneg _ (by decide), Int.emod_lt_of_pos _ (by decide)⟩
  exact h _ _
set_option maxHeartbeats 4000000 in
theorem copies_ok (A : Option Addr) (n cap : Nat) (ys : List Int) (at_ x : Int) (w : World) (hn : n ≤ 4096) (hy : ReadsInt w .u8 A n ys) (hyb : Bytes ys) (ha0 : 0 ≤ at_) (ha : at_ < 4294967296) (hx0 : 0 ≤ x) (hx : x < 4294967296) (h : at_ + 4 ≤ n) :
    Calls Try.prog 11 #[.slice A n cap, .int .u32 at_, .int .u32 x] w fun e w' => e = .returned (.bool true) ∧ Below w.heap.size w w' := by
  have hr := xor_range x
  generalize hnx : Go.bits .xor .u32 (if IntKind.u32.signed = true then -1 else IntKind.u32.max) x = nx at hr
  have NX := Aside0.mk hr
  clear hr
  have HY := Aside0.mk hy
  have hl := hy.1
  have NEW := Aside0.mk (fun w => new_nat n w (by omega))
  have PX := Aside0.mk (fun (w : World) (base g b c : Nat) (l : List Int) (y : Int) (y0 : 0 ≤ y) (y1 : y < 4294967296) (R : RamAt w base g (.slice (some ⟨b, 0, none⟩) n c) l) => put_i w base g b n c l at_ 4 y y0 y1 ha0 ha R (by decide) (by omega) (by decide))
  have GX := Aside0.mk (fun (w : World) (base g b c : Nat) (y : Int) (y0 : 0 ≤ y) (y1 : y < 4294967296) (R : RamAt w base g (.slice (some ⟨b, 0, none⟩) n c) (putL ys at_.toNat y 4)) => get_i w base g b n c _ (putL_bytes ys hyb at_.toNat y 4) at_ 4 ha0 ha R (by decide) (by omega) (by decide) y (get_put4 ys at_.toNat y y0 y1 (by omega)))
  clear hy hl
  go_enter Try.func11, Try.ntmps11
  go_wp2_with (first
    | (go_at_call 16; (with_reducible refine (alive_call _).mono ?_); rintro e w0 ⟨rfl, hb0⟩; have B0 := Aside0.mk hb0; clear hb0)
    | (go_at_call 17; (with_reducible refine (NEW.out _).mono ?_); rintro e w1 ⟨g, b, rfl, hr, hbel⟩; have R1 := Aside0.mk hr; have B1 := Aside0.mk (below_step B0.out hbel); have hbase := Aside0.mk (Nat.le_trans B0.out.size hr.baseb); clear hr hbel)
    | (go_at_call 22; (with_reducible refine (load_n _ _ _ _ _ _ _ ys _ _ R1.out (HY.out.below B1.out)).mono ?_); rintro e w2 ⟨rfl, hr2, hg2⟩; have R2 := Aside0.mk hr2; have B2 := Aside0.mk ((B1.out).grown hg2 B1.out.size (fun k hk => by simp at hk; subst hk; exact hbase.out)); clear hr2 hg2)
    | (go_at_call 31; (with_reducible refine (copy_n _ _ _ _ _ _ _ R2.out).mono ?_); rintro e w3 ⟨g2, b2, c2, rfl, hr3, hb3⟩; have R3 := Aside0.mk (R2.out.then hb3); have C3 := Aside0.mk hr3; have B3 := Aside0.mk (below_step B2.out hb3); have hn1 := Aside0.mk (Nat.lt_of_lt_of_le R2.out.blt hr3.2.1); have hn2 := Aside0.mk (Nat.lt_of_lt_of_le R2.out.blt hr3.baseb); have hn3 := Aside0.mk (Nat.lt_of_lt_of_le R2.out.lt hr3.baseb); have hbase2 := Aside0.mk (Nat.le_trans B2.out.size hr3.baseb); clear hr3 hb3)
    | (go_at_call 19; (with_reducible refine (PX.out _ _ _ _ _ _ _ hx0 hx R3.out).mono ?_); rintro e w4 ⟨rfl, hr4, hg4⟩; have R4 := Aside0.mk hr4; have C4 := Aside0.mk (C3.out.kept hg4 (by have := hn1.out; simp; omega) (by have := hn2.out; simp [Value.ownBlock]; omega)); have B4 := Aside0.mk ((B3.out).grown hg4 B3.out.size (fun k hk => by simp at hk; subst hk; exact hbase.out)); clear hr4 hg4)
    | (go_at_call 19; (with_reducible refine (PX.out _ _ _ _ _ _ _ NX.out.1 NX.out.2 C4.out).mono ?_); rintro e w5 ⟨rfl, hr5, hg5⟩; have C5 := Aside0.mk hr5; have R5 := Aside0.mk (R4.out.kept hg5 (by have := hn3.out; simp; omega) (by have := hn2.out; simp [Value.ownBlock]; omega)); have B5 := Aside0.mk ((B4.out).grown hg5 B4.out.size (fun k hk => by simp at hk; subst hk; exact hbase2.out)); clear hr5 hg5)
    | (go_at_call 18; (with_reducible refine (size_n _ _ _ _ _ _ _ R5.out).mono ?_); rintro e w' ⟨rfl, rfl⟩)
    | (go_at_call 18; (with_reducible refine (size_n _ _ _ _ _ _ _ C5.out).mono ?_); rintro e w' ⟨rfl, rfl⟩)
    | (go_at_call 20; (with_reducible refine (GX.out _ _ _ _ _ _ hx0 hx R5.out).mono ?_); rintro e w' ⟨rfl, rfl⟩)
    | (go_at_call 20; (with_reducible refine (GX.out _ _ _ _ _ _ NX.out.1 NX.out.2 C5.out).mono ?_); rintro e w' ⟨rfl, rfl⟩))
  go_ret
  exact ⟨rfl, B5.out⟩
theorem RamCopies_walk (a0 : Option Addr) (len0 cap0 : Nat) (z0 : List Int) (a1 a2 : Int) (w : World) (w0 : IsRow .u8 w a0 len0 cap0 z0) (_ : len0 * 1 ≤ 140737488351232) (w1 : (Lit.int .u32 a1).wf = true) (w2 : (Lit.int .u32 a2).wf = true) :
    Calls Try.prog 11 #[.slice a0 len0 cap0, .int .u32 a1, .int .u32 a2] w fun e w' => e = .returned (.bool true) ∧ Below w.heap.size w w' := by
  obtain ⟨l, rfl, hr, hm, hw, hc⟩ := ReadsInt.ofRowC w0
  have hb : Bytes l := fun x hx => by obtain ⟨n, rfl, hn⟩ := u8_nat (hw x hx); omega
  obtain ⟨n1, rfl, h1⟩ := u32_nat w1
  obtain ⟨n2, rfl, h2⟩ := u32_nat w2
  by_cases h : 4096 < l.length
  · exact copies_long a0 l.length cap0 _ _ w h
  · by_cases h4 : (n1 : Int) + 4 ≤ l.length
    · exact copies_ok a0 l.length cap0 l _ _ w (by omega) hr hb (by omega) (by omega) (by omega) (by omega) h4
    · exact copies_bus a0 l.length cap0 l _ _ w (by omega) hr (by omega) (by omega) (by omega) (by omega) h4
end Go.Proofs.Ytocjadgakalbdaa.RamWalk
