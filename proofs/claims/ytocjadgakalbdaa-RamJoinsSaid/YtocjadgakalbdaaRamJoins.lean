/- A number is its bytes, one by one, the lowest first; two halves make a whole: the walk of RamJoins. -/
import Derived.Test.YtocjadgakalbdaaRamF
import Derived.Test.YtocjadgakalbdaaWSized
namespace Go.Proofs.YtocjadgakalbdaaW.PrintWords
open Go.RowKit in
def IsRow (k : IntKind) (w : World) (a : Option Addr) (len cap : Nat) (zs : List Int) : Prop :=
  (a = none ∧ len = 0 ∧ cap = 0 ∧ zs = []) ∨
  ∃ x, a = some x ∧ len ≤ cap ∧ cap ≤ maxLen ∧ zs.length = cap ∧ (∀ i, i < zs.length → w.cell? (x.add i) = some (.int k (zs.getD i 0))) ∧ ∀ n ∈ zs, (Lit.int k n).wf = true
end Go.Proofs.YtocjadgakalbdaaW.PrintWords
namespace Go.Proofs.Ytocjadgakalbdaa.RamWalk
open Go.RowKit Go.Proofs.Ytocjadgakalbdaa.Aid Go.Proofs.YtocjadgakalbdaaW.PrintWords Go.Proofs.YtocjadgakalbdaaW.PrintLast Go.Proofs.YtocjadgakalbdaaW.PrintMore
attribute [local go_sem] max2_int min2_int max_two min_two max_three min_three max_four min_four   -- for this text's walks alone
set_option linter.unusedVariables false
set_option linter.unusedSimpArgs false

theorem joins_long (A : Option Addr) (n cap : Nat) (at_ : Int) (w : World) (h : 4096 < n) :
    Calls Try.prog 7 #[.slice A n cap, .int .u32 at_] w fun e w' => e = .returned (.bool true) ∧ Below w.heap.size w w' := by
  go_enter Try.func7, Try.ntmps7
  go_wp2_with (first
    | (go_at_call 16; (with_reducible refine (alive_call _).mono ?_); rintro e w0 ⟨rfl, hb0⟩; have B0 := Aside0.mk hb0; clear hb0))
  go_ret
  exact ⟨rfl, B0.out⟩

theorem joins_bus (A : Option Addr) (n cap : Nat) (ys : List Int) (at_ : Int) (w : World) (hn : n ≤ 4096) (hy : ReadsInt w .u8 A n ys) (ha0 : 0 ≤ at_) (ha : at_ < 4294967296) (h : ¬ at_ + 4 ≤ n) :
    Calls Try.prog 7 #[.slice A n cap, .int .u32 at_] w fun e w' => e = .returned (.bool true) ∧ Below w.heap.size w w' := by
  have HY := Aside0.mk hy
  have NEW := Aside0.mk (fun w => new_nat n w (by omega))
  have GB := Aside0.mk (fun (w : World) (base g b c : Nat) (l : List Int) (R : RamAt w base g (.slice (some ⟨b, 0, none⟩) n c) l) => get_bus_i w base g b n c l at_ 4 ha0 ha R (by omega))
  clear hy
  go_enter Try.func7, Try.ntmps7
  go_wp2_with (first
    | (go_at_call 16; (with_reducible refine (alive_call _).mono ?_); rintro e w0 ⟨rfl, hb0⟩; have B0 := Aside0.mk hb0; clear hb0)
    | (go_at_call 17; (with_reducible refine (NEW.out _).mono ?_); rintro e w1 ⟨g, b, rfl, hr, hbel⟩; have R1 := Aside0.mk hr; have B1 := Aside0.mk (below_step B0.out hbel); have hbase := Aside0.mk (Nat.le_trans B0.out.size hr.baseb); clear hr hbel)
    | (go_at_call 22; (with_reducible refine (load_n _ _ _ _ _ _ _ ys _ _ R1.out (HY.out.below B1.out)).mono ?_); rintro e w2 ⟨rfl, hr2, hg2⟩; have R2 := Aside0.mk hr2; have B2 := Aside0.mk ((B1.out).grown hg2 B1.out.size (fun k hk => by simp at hk; subst hk; exact hbase.out)); clear hr2 hg2)
    | (go_at_call 20; (with_reducible refine (GB.out _ _ _ _ _ _ R2.out).mono ?_); rintro e w' ⟨rfl, rfl⟩))
  go_ret
  exact ⟨rfl, B2.out⟩

set_option maxRecDepth 100000 in
set_option maxHeartbeats 4000000 in
theorem joins_ok (A : Option Addr) (n cap : Nat) (ys : List Int) (at_ : Int) (w : World) (hn : n ≤ 4096) (hy : ReadsInt w .u8 A n ys) (hyb : Bytes ys) (ha0 : 0 ≤ at_) (ha : at_ < 4294967296) (h : at_ + 4 ≤ n) :
    Calls Try.prog 7 #[.slice A n cap, .int .u32 at_] w fun e w' => e = .returned (.bool true) ∧ Below w.heap.size w w' := by
  obtain ⟨a, rfl⟩ : ∃ a : Nat, at_ = a := ⟨at_.toNat, by omega⟩
  have hl := hy.1
  have d0 := hyb.get a
  have d1 := hyb.get (a + 1)
  have d2 := hyb.get (a + 2)
  have d3 := hyb.get (a + 3)
  have e0 : ∀ m, 0 < m → (ys.drop a).take m = ys.getD a 0 :: (ys.drop (a + 1)).take (m - 1) := fun m hm => by
    have := take_step ys a 0 m (by omega) hm
    rw [Nat.add_zero, Nat.sub_zero] at this
    exact this
  have e1 := fun m (hm : 1 < m) => take_step ys a 1 m (by omega) hm
  have e2 := fun m (hm : 2 < m) => take_step ys a 2 m (by omega) hm
  have e3 := fun m (hm : 3 < m) => take_step ys a 3 m (by omega) hm
  have X4 : leN ((ys.drop a).take 4) = ys.getD a 0 + 256 * ys.getD (a + 1) 0 + 65536 * ys.getD (a + 2) 0 + 16777216 * ys.getD (a + 3) 0 := by
    rw [e0 4 (by decide), e1 4 (by decide), e2 4 (by decide), e3 4 (by decide), show 4 - (3 + 1) = 0 from rfl, List.take_zero]
    unfold leN leN leN leN leN
    omega
  have X2 : leN ((ys.drop a).take 2) = ys.getD a 0 + 256 * ys.getD (a + 1) 0 := by
    rw [e0 2 (by decide), e1 2 (by decide), show 2 - (1 + 1) = 0 from rfl, List.take_zero]
    unfold leN leN leN
    omega
  have X2' : leN ((ys.drop (a + 2)).take 2) = ys.getD (a + 2) 0 + 256 * ys.getD (a + 3) 0 := by
    rw [show (2 : Nat) = 4 - 2 from rfl, show a + (4 - 2) = a + 2 from rfl, e2 4 (by decide), e3 4 (by decide), show 4 - (3 + 1) = 0 from rfl, List.take_zero]
    unfold leN leN leN
    omega
  have X1 : ∀ k, k < 4 → leN ((ys.drop (a + k)).take 1) = ys.getD (a + k) 0 := by
    intro k hk
    have := take_step ys a k (k + 1) (by omega) (by omega)
    rw [show k + 1 - k = 1 from by omega, show k + 1 - (k + 1) = 0 from by omega, List.take_zero] at this
    rw [this]
    unfold leN leN
    omega
  have G : ∀ (w : World) (base g b c m o : Nat) (v mi oi : Int) (R : RamAt w base g (.slice (some ⟨b, 0, none⟩) n c) ys), o + m ≤ 4 → (m : Int) = mi → (a : Int) + o = oi → leN ((ys.drop (a + o)).take m) = v →
      Calls Try.prog 20 #[.pointer (some ⟨g, 0, none⟩), .int .u32 oi, .int .i64 mi] w fun e w' => e = .returned (.tuple #[.int .u32 v, .int .i64 0]) ∧ w = w' := by
    intro w base g b c m o v mi oi R ho hm hoi hv
    subst hm hoi
    have := get_n w base g b n c ys hyb (a + o) m (by omega) R (by omega) (by omega) v hv
    rwa [show ((a + o : Nat) : Int) = (a : Int) + o from by omega] at this
  have HY := Aside0.mk hy
  have NEW := Aside0.mk (fun w => new_nat n w (by omega))
  generalize hx0 : ys.getD a 0 = x0 at *
  generalize hx1 : ys.getD (a + 1) 0 = x1 at *
  generalize hx2 : ys.getD (a + 2) 0 = x2 at *
  generalize hx3 : ys.getD (a + 3) 0 = x3 at *
  have G4 := Aside0.mk (fun (w : World) (base g b c : Nat) (R : RamAt w base g (.slice (some ⟨b, 0, none⟩) n c) ys) => G w base g b c 4 0 _ 4 (a : Int) R (by decide) rfl (by omega) X4)
  have G2 := Aside0.mk (fun (w : World) (base g b c : Nat) (R : RamAt w base g (.slice (some ⟨b, 0, none⟩) n c) ys) => G w base g b c 2 0 _ 2 (a : Int) R (by decide) rfl (by omega) X2)
  have G2' := Aside0.mk (fun (w : World) (base g b c : Nat) (R : RamAt w base g (.slice (some ⟨b, 0, none⟩) n c) ys) => G w base g b c 2 2 _ 2 ((a : Int) + 2) R (by decide) rfl (by omega) X2')
  have X10 := X1 0 (by decide)
  have X11 := X1 1 (by decide)
  have X12 := X1 2 (by decide)
  have X13 := X1 3 (by decide)
  rw [Nat.add_zero, hx0] at X10
  rw [hx1] at X11
  rw [hx2] at X12
  rw [hx3] at X13
  have LK : ∀ k : Nat, k < 4 → ∃ y : Int, ((x0 + 256 * x1 + 65536 * x2 + 16777216 * x3) / 2 ^ (8 * k)).tmod 256 = y ∧ Aside0 (∀ (w : World) (base g b c : Nat), RamAt w base g (.slice (some ⟨b, 0, none⟩) n c) ys →
      Calls Try.prog 20 #[.pointer (some ⟨g, 0, none⟩), .int .u32 ((a : Int) + (k : Int)), .int .i64 1] w fun e w' => e = .returned (.tuple #[.int .u32 y, .int .i64 0]) ∧ w = w') := by
    intro k hk
    match k, hk with
    | 0, _ => exact ⟨x0, by rw [show ((2 : Int) ^ (8 * 0)) = 1 from rfl, Int.tmod_eq_emod_of_nonneg (by omega)]; omega, ⟨fun w base g b c R => G w base g b c 1 0 _ 1 _ R (by decide) rfl rfl X10⟩⟩
    | 1, _ => exact ⟨x1, by rw [show ((2 : Int) ^ (8 * 1)) = 256 from rfl, Int.tmod_eq_emod_of_nonneg (by omega)]; omega, ⟨fun w base g b c R => G w base g b c 1 1 _ 1 _ R (by decide) rfl rfl X11⟩⟩
    | 2, _ => exact ⟨x2, by rw [show ((2 : Int) ^ (8 * 2)) = 65536 from rfl, Int.tmod_eq_emod_of_nonneg (by omega)]; omega, ⟨fun w base g b c R => G w base g b c 1 2 _ 1 _ R (by decide) rfl rfl X12⟩⟩
    | 3, _ => exact ⟨x3, by rw [show ((2 : Int) ^ (8 * 3)) = 16777216 from rfl, Int.tmod_eq_emod_of_nonneg (by omega)]; omega, ⟨fun w base g b c R => G w base g b c 1 3 _ 1 _ R (by decide) rfl rfl X13⟩⟩
  have LK := Aside0.mk LK
  clear G X4 X2 X2' X1 e0 e1 e2 e3 X10 X11 X12 X13 hx0 hx1 hx2 hx3 hy hl hyb
  generalize (a : Int) = at_ at *
  have hjoin : (x0 + 256 * x1 + 65536 * x2 + 16777216 * x3 != x0 + 256 * x1 + 65536 * (x2 + 256 * x3)) = false := by
    rw [bne_eq_false_iff_eq]; omega
  go_enter Try.func7, Try.ntmps7
  go_wp2_with (first
    | (go_at_call 16; (with_reducible refine (alive_call _).mono ?_); rintro e w0 ⟨rfl, hb0⟩; have B0 := Aside0.mk hb0; clear hb0)
    | (go_at_call 17; (with_reducible refine (NEW.out _).mono ?_); rintro e w1 ⟨g, b, rfl, hr, hbel⟩; have R1 := Aside0.mk hr; have B1 := Aside0.mk (below_step B0.out hbel); have hbase := Aside0.mk (Nat.le_trans B0.out.size hr.baseb); clear hr hbel)
    | (go_at_call 22; (with_reducible refine (load_n _ _ _ _ _ _ _ ys _ _ R1.out (HY.out.below B1.out)).mono ?_); rintro e w2 ⟨rfl, hr2, hg2⟩; have R2 := Aside0.mk hr2; have B2 := Aside0.mk ((B1.out).grown hg2 B1.out.size (fun k hk => by simp at hk; subst hk; exact hbase.out)); clear hr2 hg2)
    | (go_at_call 20; (with_reducible refine (G4.out _ _ _ _ _ R2.out).mono ?_); rintro e w' ⟨rfl, rfl⟩)
    | (go_at_call 20; (with_reducible refine (G2.out _ _ _ _ _ R2.out).mono ?_); rintro e w' ⟨rfl, rfl⟩)
    | (go_at_call 20; (with_reducible refine (G2'.out _ _ _ _ _ R2.out).mono ?_); rintro e w' ⟨rfl, rfl⟩))
  go_loopw [12] (fun i wr => ∃ k : Nat, k ≤ 4 ∧ i = .int .u32 k ∧ w2 = wr) (fun i _ => 4 - (intOf i).toNat)
  case atStart => exact ⟨0, by decide, rfl, rfl⟩
  case round =>
    obtain ⟨k, hk, rfl, rfl⟩ := hrel
    by_cases hk4 : k = 4
    · subst hk4
      go_wp2
      go_ret
      exact ⟨rfl, B2.out⟩
    · obtain ⟨y, hy1, hy2⟩ := LK.out k (by omega)
      go_wp2_with (first | (go_at_call 20; (with_reducible refine (hy2.out _ _ _ _ _ R2.out).mono ?_); rintro e w' ⟨rfl, rfl⟩))
      go_roundw
      case rel => exact ⟨k + 1, by omega, rfl, trivial⟩
      case measure => simp [intOf]; omega
theorem RamJoins_walk (a0 : Option Addr) (len0 cap0 : Nat) (z0 : List Int) (a1 : Int) (w : World) (w0 : IsRow .u8 w a0 len0 cap0 z0) (_ : len0 * 1 ≤ 140737488351232) (w1 : (Lit.int .u32 a1).wf = true) :
    Calls Try.prog 7 #[.slice a0 len0 cap0, .int .u32 a1] w fun e w' => e = .returned (.bool true) ∧ Below w.heap.size w w' := by
  obtain ⟨l, rfl, hr, hm, hw, hc⟩ := ReadsInt.ofRowC w0
  have hb : Bytes l := fun x hx => by obtain ⟨n, rfl, hn⟩ := u8_nat (hw x hx); omega
  obtain ⟨n1, rfl, h1⟩ := u32_nat w1
  by_cases h : 4096 < l.length
  · exact joins_long a0 l.length cap0 _ w h
  · by_cases h4 : (n1 : Int) + 4 ≤ l.length
    · exact joins_ok a0 l.length cap0 l _ w (by omega) hr hb (by omega) (by omega) h4
    · exact joins_bus a0 l.length cap0 l _ w (by omega) hr (by omega) (by omega) h4
end Go.Proofs.Ytocjadgakalbdaa.RamWalk
