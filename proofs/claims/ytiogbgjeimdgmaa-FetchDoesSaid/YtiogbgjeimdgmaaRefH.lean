/- The document's MMU: mark, walked. -/
import Derived.Test.YtiogbgjeimdgmaaRefG
namespace Go.Proofs.Ytiogbgjeimdgmaa.RefWalk
open Go.RowKit Go.Proofs.Ytiogbgjeimdgmaa.Aid Go.Proofs.YtiogbgjeimdgmaaW.PrintWords Go.Proofs.YtiogbgjeimdgmaaW.PrintLast Go.Proofs.YtiogbgjeimdgmaaW.PrintMore
open Go.Proofs.Ytiogbgjeimdgmaa.MmuWalk (Chg R32 isE wrE Flt fltV noF flt Tabs row_ty own_keep two_ty offE atE atE_r lenum_r orM orM_r memMark markP markL)
open Go.Proofs.Ytiogbgjeimdgmaa.RamWalk (Bytes leN leN_bounds putL putL_length putL_bytes)
open Go.Proofs.Ytiogbgjeimdgmaa.TlbWalk (RefAt putP posP entP nil2 rget_call mem_getD putP_mem putP_nodup)
attribute [local go_sem] max2_int min2_int max_two min_two max_three min_three max_four min_four   -- for this text's walks alone
set_option linter.unusedVariables false
set_option linter.unusedSimpArgs false
/-- A number laid where it stands changes nothing. -/
theorem getD_leN (l : List Int) (hb : Bytes l) (a : Nat) (h : a + 4 ≤ l.length) : ∀ j, j < 4 → leN ((l.drop a).take 4) / 2 ^ (8 * j) % 256 = l.getD (a + j) 0 := by
  have e : ∀ j, j < 4 → l.getD (a + j) 0 = ((l.drop a).take 4).getD j 0 := fun j hj => by
    rw [List.getD_eq_getElem?_getD, List.getD_eq_getElem?_getD, List.getElem?_take_of_lt hj, List.getElem?_drop]
  have hl : ((l.drop a).take 4).length = 4 := by rw [List.length_take, List.length_drop]; omega
  have hb4 : Bytes ((l.drop a).take 4) := (hb.drop a).take 4
  intro j hj
  rw [e j hj]
  generalize (l.drop a).take 4 = q at *
  match q, hl with
  | [x0, x1, x2, x3], _ =>
    have b0 := hb4 x0 (by simp)
    have b1 := hb4 x1 (by simp)
    have b2 := hb4 x2 (by simp)
    have b3 := hb4 x3 (by simp)
    have hv : leN [x0, x1, x2, x3] = x0 + 256 * x1 + 65536 * x2 + 16777216 * x3 := by
      show x0 + 256 * (x1 + 256 * (x2 + 256 * (x3 + 256 * 0))) = _
      omega
    rw [hv]
    have : j = 0 ∨ j = 1 ∨ j = 2 ∨ j = 3 := by omega
    rcases this with rfl | rfl | rfl | rfl
    · show (x0 + 256 * x1 + 65536 * x2 + 16777216 * x3) / 1 % 256 = x0
      omega
    · show (x0 + 256 * x1 + 65536 * x2 + 16777216 * x3) / 256 % 256 = x1
      omega
    · show (x0 + 256 * x1 + 65536 * x2 + 16777216 * x3) / 65536 % 256 = x2
      omega
    · show (x0 + 256 * x1 + 65536 * x2 + 16777216 * x3) / 16777216 % 256 = x3
      omega
theorem putL_same (l : List Int) (hb : Bytes l) (a : Nat) (h : a + 4 ≤ l.length) : ∀ k, k ≤ 4 → putL l a (leN ((l.drop a).take 4)) k = l
  | 0, _ => rfl
  | k + 1, hk => by
    show (putL l a _ k).set (a + k) _ = l
    rw [putL_same l hb a h k (by omega), getD_leN l hb a h k (by omega)]
    apply List.ext_getElem?
    intro i
    by_cases hi : a + k = i
    · subst hi
      have hlt : a + k < l.length := by omega
      rw [List.getElem?_set_self hlt, List.getD_eq_getElem?_getD, List.getElem?_eq_getElem hlt]; rfl
    · rw [List.getElem?_set_ne hi]
theorem memMark_wr {T : Tabs} {l : List Int} {va : Int} (hb : Bytes l) (hoff : offE T va = false) (hl : atE T va + 4 ≤ l.length) (hw : wrE (leN ((l.drop (atE T va).toNat).take 4)) = true) : memMark T l va = l := by
  unfold memMark
  have ha := (atE_r T va).1
  rw [hoff, if_neg (by decide), if_pos hl]
  unfold Go.Proofs.Ytiogbgjeimdgmaa.MmuWalk.orM
  rw [hw, if_pos rfl]
  exact putL_same l hb _ (by omega) 4 (Nat.le_refl _)
set_option maxRecDepth 100000 in
theorem rmark_wr (w : World) (base : Nat) (L : LocR) (vp ve : Value) (T : Tabs) (pl : Bool) (ps : List (Int × Int)) (l : List Int) (va : Int) (hv : R32 va) (h : RmAt w base L vp ve T pl ps l) (x : Int) (TG : Aside0 (∀ W, RmAt W base L vp ve T pl ps l → Calls Try.prog 58 #[.pointer (some ⟨L.t, 0, none⟩), .int .u32 (va / 512)] W fun e w' => e = .returned (.tuple #[.int .u32 x, .bool true]) ∧ W = w')) (B1 : Aside0 (∀ W, Calls Try.prog 61 #[.int .u32 x, .int .i64 26] W fun e w' => e = .returned (.bool true) ∧ W = w')) :
    Calls Try.prog 71 #[.pointer (some ⟨L.m, 0, none⟩), .int .u32 va] w fun e w' => e = .returned (.tuple #[]) ∧ RStep w w' base L vp ve T pl ps l := by
  have MW := Aside0.mk h
  have c0 : w.cell? ⟨L.m, 0, none⟩ = some (.pointer (some ⟨L.r, 0, none⟩)) := h.cell 0
  have c1 : w.cell? ⟨L.m, 1, none⟩ = some (.pointer (some ⟨L.t, 0, none⟩)) := h.cell 1
  have hv0 := hv.1
  have hv1 := hv.2
  have e0 : Int.tdiv va 512 = va / 512 := Int.tdiv_eq_ediv_of_nonneg hv0
  have e3 : va / 512 % 4294967296 = va / 512 := by omega
  clear h hv
  go_enter Try.func71, Try.ntmps71
  go_wp2_with (first
    | (go_at_call 58; (with_reducible refine (TG.out _ MW.out).mono ?_); rintro e w3 ⟨rfl, rfl⟩)
    | (go_at_call 61; (with_reducible refine (B1.out _).mono ?_); rintro e w3 ⟨rfl, rfl⟩))
  first | go_end0 | refine bodyPost_ret (results_none rfl _ _ _) rfl ?_
  exact ⟨rfl, RStep.of_below MW.out (Below.refl _ _)⟩
set_option maxRecDepth 100000 in
theorem rmark_n1 (w : World) (base : Nat) (L : LocR) (vp ve : Value) (T : Tabs) (pl : Bool) (ps : List (Int × Int)) (l : List Int) (va : Int) (hv : R32 va) (h : RmAt w base L vp ve T pl ps l) (x : Int) (TG : Aside0 (∀ W, RmAt W base L vp ve T pl ps l → Calls Try.prog 58 #[.pointer (some ⟨L.t, 0, none⟩), .int .u32 (va / 512)] W fun e w' => e = .returned (.tuple #[.int .u32 x, .bool false]) ∧ W = w')) (at_ : Int) (EN : Aside0 (∀ W vp' ve' ps', RmAt W base L vp' ve' T pl ps' l → Calls Try.prog 49 #[.pointer (some ⟨L.m, 0, none⟩), .int .u32 va] W fun e w' => e = .returned (.tuple #[.int .u32 at_, .bool false]) ∧ W = w')) (y er : Int) (RG : Aside0 (∀ W vp' ve' ps', RmAt W base L vp' ve' T pl ps' l → Calls Try.prog 50 #[.pointer (some ⟨L.r, 0, none⟩), .int .u32 at_, .int .i64 4] W fun e w' => e = .returned (.tuple #[.int .u32 y, .int .i64 er]) ∧ W = w')) :
    Calls Try.prog 71 #[.pointer (some ⟨L.m, 0, none⟩), .int .u32 va] w fun e w' => e = .returned (.tuple #[]) ∧ RStep w w' base L vp ve T pl ps l := by
  have MW := Aside0.mk h
  have c0 : w.cell? ⟨L.m, 0, none⟩ = some (.pointer (some ⟨L.r, 0, none⟩)) := h.cell 0
  have c1 : w.cell? ⟨L.m, 1, none⟩ = some (.pointer (some ⟨L.t, 0, none⟩)) := h.cell 1
  have hv0 := hv.1
  have hv1 := hv.2
  have e0 : Int.tdiv va 512 = va / 512 := Int.tdiv_eq_ediv_of_nonneg hv0
  have e3 : va / 512 % 4294967296 = va / 512 := by omega
  clear h hv
  go_enter Try.func71, Try.ntmps71
  go_wp2_with (first
    | (go_at_call 58; (with_reducible refine (TG.out _ MW.out).mono ?_); rintro e w3 ⟨rfl, rfl⟩)
    | (go_at_call 49; (with_reducible refine (EN.out _ _ _ _ MW.out).mono ?_); rintro e w3 ⟨rfl, rfl⟩)
    | (go_at_call 50; (with_reducible refine (RG.out _ _ _ _ MW.out).mono ?_); rintro e w3 ⟨rfl, rfl⟩))
  first | go_end0 | refine bodyPost_ret (results_none rfl _ _ _) rfl ?_
  exact ⟨rfl, RStep.of_below MW.out (Below.refl _ _)⟩
set_option maxRecDepth 100000 in
theorem rmark_n2 (w : World) (base : Nat) (L : LocR) (vp ve : Value) (T : Tabs) (pl : Bool) (ps : List (Int × Int)) (l : List Int) (va : Int) (hv : R32 va) (h : RmAt w base L vp ve T pl ps l) (x : Int) (TG : Aside0 (∀ W, RmAt W base L vp ve T pl ps l → Calls Try.prog 58 #[.pointer (some ⟨L.t, 0, none⟩), .int .u32 (va / 512)] W fun e w' => e = .returned (.tuple #[.int .u32 x, .bool false]) ∧ W = w')) (at_ : Int) (EN : Aside0 (∀ W vp' ve' ps', RmAt W base L vp' ve' T pl ps' l → Calls Try.prog 49 #[.pointer (some ⟨L.m, 0, none⟩), .int .u32 va] W fun e w' => e = .returned (.tuple #[.int .u32 at_, .bool true]) ∧ W = w')) (y er : Int) (RG : Aside0 (∀ W vp' ve' ps', RmAt W base L vp' ve' T pl ps' l → Calls Try.prog 50 #[.pointer (some ⟨L.r, 0, none⟩), .int .u32 at_, .int .i64 4] W fun e w' => e = .returned (.tuple #[.int .u32 y, .int .i64 er]) ∧ W = w')) (her : (er == 0) = false) :
    Calls Try.prog 71 #[.pointer (some ⟨L.m, 0, none⟩), .int .u32 va] w fun e w' => e = .returned (.tuple #[]) ∧ RStep w w' base L vp ve T pl ps l := by
  have MW := Aside0.mk h
  have c0 : w.cell? ⟨L.m, 0, none⟩ = some (.pointer (some ⟨L.r, 0, none⟩)) := h.cell 0
  have c1 : w.cell? ⟨L.m, 1, none⟩ = some (.pointer (some ⟨L.t, 0, none⟩)) := h.cell 1
  have hv0 := hv.1
  have hv1 := hv.2
  have e0 : Int.tdiv va 512 = va / 512 := Int.tdiv_eq_ediv_of_nonneg hv0
  have e3 : va / 512 % 4294967296 = va / 512 := by omega
  clear h hv
  go_enter Try.func71, Try.ntmps71
  go_wp2_with (first
    | (go_at_call 58; (with_reducible refine (TG.out _ MW.out).mono ?_); rintro e w3 ⟨rfl, rfl⟩)
    | (go_at_call 49; (with_reducible refine (EN.out _ _ _ _ MW.out).mono ?_); rintro e w3 ⟨rfl, rfl⟩)
    | (go_at_call 50; (with_reducible refine (RG.out _ _ _ _ MW.out).mono ?_); rintro e w3 ⟨rfl, rfl⟩))
  first | go_end0 | refine bodyPost_ret (results_none rfl _ _ _) rfl ?_
  exact ⟨rfl, RStep.of_below MW.out (Below.refl _ _)⟩
set_option maxRecDepth 100000 in
theorem rmark_n3 (w : World) (base : Nat) (L : LocR) (vp ve : Value) (T : Tabs) (pl : Bool) (ps : List (Int × Int)) (l : List Int) (va : Int) (hv : R32 va) (h : RmAt w base L vp ve T pl ps l) (x : Int) (TG : Aside0 (∀ W, RmAt W base L vp ve T pl ps l → Calls Try.prog 58 #[.pointer (some ⟨L.t, 0, none⟩), .int .u32 (va / 512)] W fun e w' => e = .returned (.tuple #[.int .u32 x, .bool false]) ∧ W = w')) (at_ : Int) (EN : Aside0 (∀ W vp' ve' ps', RmAt W base L vp' ve' T pl ps' l → Calls Try.prog 49 #[.pointer (some ⟨L.m, 0, none⟩), .int .u32 va] W fun e w' => e = .returned (.tuple #[.int .u32 at_, .bool true]) ∧ W = w')) (y er : Int) (RG : Aside0 (∀ W vp' ve' ps', RmAt W base L vp' ve' T pl ps' l → Calls Try.prog 50 #[.pointer (some ⟨L.r, 0, none⟩), .int .u32 at_, .int .i64 4] W fun e w' => e = .returned (.tuple #[.int .u32 y, .int .i64 er]) ∧ W = w')) (her : (er == 0) = true) (B2 : Aside0 (∀ W, Calls Try.prog 61 #[.int .u32 y, .int .i64 26] W fun e w' => e = .returned (.bool true) ∧ W = w')) :
    Calls Try.prog 71 #[.pointer (some ⟨L.m, 0, none⟩), .int .u32 va] w fun e w' => e = .returned (.tuple #[]) ∧ RStep w w' base L vp ve T pl ps l := by
  have MW := Aside0.mk h
  have c0 : w.cell? ⟨L.m, 0, none⟩ = some (.pointer (some ⟨L.r, 0, none⟩)) := h.cell 0
  have c1 : w.cell? ⟨L.m, 1, none⟩ = some (.pointer (some ⟨L.t, 0, none⟩)) := h.cell 1
  have hv0 := hv.1
  have hv1 := hv.2
  have e0 : Int.tdiv va 512 = va / 512 := Int.tdiv_eq_ediv_of_nonneg hv0
  have e3 : va / 512 % 4294967296 = va / 512 := by omega
  clear h hv
  go_enter Try.func71, Try.ntmps71
  go_wp2_with (first
    | (go_at_call 58; (with_reducible refine (TG.out _ MW.out).mono ?_); rintro e w3 ⟨rfl, rfl⟩)
    | (go_at_call 49; (with_reducible refine (EN.out _ _ _ _ MW.out).mono ?_); rintro e w3 ⟨rfl, rfl⟩)
    | (go_at_call 50; (with_reducible refine (RG.out _ _ _ _ MW.out).mono ?_); rintro e w3 ⟨rfl, rfl⟩)
    | (go_at_call 61; (with_reducible refine (B2.out _).mono ?_); rintro e w3 ⟨rfl, rfl⟩))
  first | go_end0 | refine bodyPost_ret (results_none rfl _ _ _) rfl ?_
  exact ⟨rfl, RStep.of_below MW.out (Below.refl _ _)⟩
set_option maxRecDepth 100000 in
theorem rmark_n4 (w : World) (base : Nat) (L : LocR) (vp ve : Value) (T : Tabs) (pl : Bool) (ps : List (Int × Int)) (l : List Int) (va : Int) (hv : R32 va) (h : RmAt w base L vp ve T pl ps l) (x : Int) (TG : Aside0 (∀ W, RmAt W base L vp ve T pl ps l → Calls Try.prog 58 #[.pointer (some ⟨L.t, 0, none⟩), .int .u32 (va / 512)] W fun e w' => e = .returned (.tuple #[.int .u32 x, .bool false]) ∧ W = w')) (at_ : Int) (EN : Aside0 (∀ W vp' ve' ps', RmAt W base L vp' ve' T pl ps' l → Calls Try.prog 49 #[.pointer (some ⟨L.m, 0, none⟩), .int .u32 va] W fun e w' => e = .returned (.tuple #[.int .u32 at_, .bool true]) ∧ W = w')) (y er : Int) (RG : Aside0 (∀ W vp' ve' ps', RmAt W base L vp' ve' T pl ps' l → Calls Try.prog 50 #[.pointer (some ⟨L.r, 0, none⟩), .int .u32 at_, .int .i64 4] W fun e w' => e = .returned (.tuple #[.int .u32 y, .int .i64 er]) ∧ W = w')) (her : (er == 0) = true) (B2 : Aside0 (∀ W, Calls Try.prog 61 #[.int .u32 y, .int .i64 26] W fun e w' => e = .returned (.bool false) ∧ W = w')) (y' : Int) (hy : (y + 67108864) % 4294967296 = y') (l' : List Int) (RP : Aside0 (∀ W vp' ve' ps', RmAt W base L vp' ve' T pl ps' l → Calls Try.prog 44 #[.pointer (some ⟨L.r, 0, none⟩), .int .u32 at_, .int .u32 y', .int .i64 4] W fun e w' => e = .returned (.int .i64 0) ∧ RStep W w' base L vp' ve' T pl ps' l')) :
    Calls Try.prog 71 #[.pointer (some ⟨L.m, 0, none⟩), .int .u32 va] w fun e w' => e = .returned (.tuple #[]) ∧ RStep w w' base L vp ve T pl ps l' := by
  have MW := Aside0.mk h
  have c0 : w.cell? ⟨L.m, 0, none⟩ = some (.pointer (some ⟨L.r, 0, none⟩)) := h.cell 0
  have c1 : w.cell? ⟨L.m, 1, none⟩ = some (.pointer (some ⟨L.t, 0, none⟩)) := h.cell 1
  have hv0 := hv.1
  have hv1 := hv.2
  have e0 : Int.tdiv va 512 = va / 512 := Int.tdiv_eq_ediv_of_nonneg hv0
  have e3 : va / 512 % 4294967296 = va / 512 := by omega
  clear h hv
  go_enter Try.func71, Try.ntmps71
  go_wp2_with (first
    | (go_at_call 58; (with_reducible refine (TG.out _ MW.out).mono ?_); rintro e w3 ⟨rfl, rfl⟩)
    | (go_at_call 49; (with_reducible refine (EN.out _ _ _ _ MW.out).mono ?_); rintro e w3 ⟨rfl, rfl⟩)
    | (go_at_call 50; (with_reducible refine (RG.out _ _ _ _ MW.out).mono ?_); rintro e w3 ⟨rfl, rfl⟩)
    | (go_at_call 61; (with_reducible refine (B2.out _).mono ?_); rintro e w3 ⟨rfl, rfl⟩)
    | (go_at_call 44; (with_reducible refine (RP.out _ _ _ _ MW.out).mono ?_); rintro e w8 ⟨rfl, s8⟩; have S8 := Aside0.mk s8; clear s8))
  first | go_end0 | refine bodyPost_ret (results_none rfl _ _ _) rfl ?_
  exact ⟨rfl, S8.out⟩
set_option maxRecDepth 100000 in
theorem rmark_y1 (w : World) (base : Nat) (L : LocR) (vp ve : Value) (T : Tabs) (pl : Bool) (ps : List (Int × Int)) (l : List Int) (va : Int) (hv : R32 va) (h : RmAt w base L vp ve T pl ps l) (x : Int) (TG : Aside0 (∀ W, RmAt W base L vp ve T pl ps l → Calls Try.prog 58 #[.pointer (some ⟨L.t, 0, none⟩), .int .u32 (va / 512)] W fun e w' => e = .returned (.tuple #[.int .u32 x, .bool true]) ∧ W = w')) (B1 : Aside0 (∀ W, Calls Try.prog 61 #[.int .u32 x, .int .i64 26] W fun e w' => e = .returned (.bool false) ∧ W = w')) (x' : Int) (hx : (x + 67108864) % 4294967296 = x') (PT : Aside0 (∀ W, RmAt W base L vp ve T pl ps l → Calls Try.prog 62 #[.pointer (some ⟨L.t, 0, none⟩), .int .u32 (va / 512), .int .u32 x'] W fun e w' => e = .returned (.tuple #[]) ∧ RStep W w' base L vp ve T pl (putP (va / 512) x' ps) l)) (at_ : Int) (EN : Aside0 (∀ W vp' ve' ps', RmAt W base L vp' ve' T pl ps' l → Calls Try.prog 49 #[.pointer (some ⟨L.m, 0, none⟩), .int .u32 va] W fun e w' => e = .returned (.tuple #[.int .u32 at_, .bool false]) ∧ W = w')) (y er : Int) (RG : Aside0 (∀ W vp' ve' ps', RmAt W base L vp' ve' T pl ps' l → Calls Try.prog 50 #[.pointer (some ⟨L.r, 0, none⟩), .int .u32 at_, .int .i64 4] W fun e w' => e = .returned (.tuple #[.int .u32 y, .int .i64 er]) ∧ W = w')) :
    Calls Try.prog 71 #[.pointer (some ⟨L.m, 0, none⟩), .int .u32 va] w fun e w' => e = .returned (.tuple #[]) ∧ RStep w w' base L vp ve T pl (putP (va / 512) x' ps) l := by
  have MW := Aside0.mk h
  have c0 : w.cell? ⟨L.m, 0, none⟩ = some (.pointer (some ⟨L.r, 0, none⟩)) := h.cell 0
  have c1 : w.cell? ⟨L.m, 1, none⟩ = some (.pointer (some ⟨L.t, 0, none⟩)) := h.cell 1
  have hv0 := hv.1
  have hv1 := hv.2
  have e0 : Int.tdiv va 512 = va / 512 := Int.tdiv_eq_ediv_of_nonneg hv0
  have e3 : va / 512 % 4294967296 = va / 512 := by omega
  clear h hv
  go_enter Try.func71, Try.ntmps71
  go_wp2_with (first
    | (go_at_call 58; (with_reducible refine (TG.out _ MW.out).mono ?_); rintro e w3 ⟨rfl, rfl⟩)
    | (go_at_call 61; (with_reducible refine (B1.out _).mono ?_); rintro e w3 ⟨rfl, rfl⟩)
    | (go_at_call 62; (with_reducible refine (PT.out _ MW.out).mono ?_); rintro e w7 ⟨rfl, s7⟩; have S7 := Aside0.mk s7; obtain ⟨vp7, ve7, m7, n1, n2⟩ := s7.at_; have M7 := Aside0.mk m7; have N7 := Aside0.mk (And.intro n1 n2); have d0 : w7.cell? ⟨L.m, 0, none⟩ = some (.pointer (some ⟨L.r, 0, none⟩)) := m7.cell 0; clear s7 m7 n1 n2)
    | (go_at_call 49; (with_reducible refine (EN.out _ _ _ _ M7.out).mono ?_); rintro e w3 ⟨rfl, rfl⟩)
    | (go_at_call 50; (with_reducible refine (RG.out _ _ _ _ M7.out).mono ?_); rintro e w3 ⟨rfl, rfl⟩))
  first | go_end0 | refine bodyPost_ret (results_none rfl _ _ _) rfl ?_
  exact ⟨rfl, S7.out⟩
set_option maxRecDepth 100000 in
theorem rmark_y2 (w : World) (base : Nat) (L : LocR) (vp ve : Value) (T : Tabs) (pl : Bool) (ps : List (Int × Int)) (l : List Int) (va : Int) (hv : R32 va) (h : RmAt w base L vp ve T pl ps l) (x : Int) (TG : Aside0 (∀ W, RmAt W base L vp ve T pl ps l → Calls Try.prog 58 #[.pointer (some ⟨L.t, 0, none⟩), .int .u32 (va / 512)] W fun e w' => e = .returned (.tuple #[.int .u32 x, .bool true]) ∧ W = w')) (B1 : Aside0 (∀ W, Calls Try.prog 61 #[.int .u32 x, .int .i64 26] W fun e w' => e = .returned (.bool false) ∧ W = w')) (x' : Int) (hx : (x + 67108864) % 4294967296 = x') (PT : Aside0 (∀ W, RmAt W base L vp ve T pl ps l → Calls Try.prog 62 #[.pointer (some ⟨L.t, 0, none⟩), .int .u32 (va / 512), .int .u32 x'] W fun e w' => e = .returned (.tuple #[]) ∧ RStep W w' base L vp ve T pl (putP (va / 512) x' ps) l)) (at_ : Int) (EN : Aside0 (∀ W vp' ve' ps', RmAt W base L vp' ve' T pl ps' l → Calls Try.prog 49 #[.pointer (some ⟨L.m, 0, none⟩), .int .u32 va] W fun e w' => e = .returned (.tuple #[.int .u32 at_, .bool true]) ∧ W = w')) (y er : Int) (RG : Aside0 (∀ W vp' ve' ps', RmAt W base L vp' ve' T pl ps' l → Calls Try.prog 50 #[.pointer (some ⟨L.r, 0, none⟩), .int .u32 at_, .int .i64 4] W fun e w' => e = .returned (.tuple #[.int .u32 y, .int .i64 er]) ∧ W = w')) (her : (er == 0) = false) :
    Calls Try.prog 71 #[.pointer (some ⟨L.m, 0, none⟩), .int .u32 va] w fun e w' => e = .returned (.tuple #[]) ∧ RStep w w' base L vp ve T pl (putP (va / 512) x' ps) l := by
  have MW := Aside0.mk h
  have c0 : w.cell? ⟨L.m, 0, none⟩ = some (.pointer (some ⟨L.r, 0, none⟩)) := h.cell 0
  have c1 : w.cell? ⟨L.m, 1, none⟩ = some (.pointer (some ⟨L.t, 0, none⟩)) := h.cell 1
  have hv0 := hv.1
  have hv1 := hv.2
  have e0 : Int.tdiv va 512 = va / 512 := Int.tdiv_eq_ediv_of_nonneg hv0
  have e3 : va / 512 % 4294967296 = va / 512 := by omega
  clear h hv
  go_enter Try.func71, Try.ntmps71
  go_wp2_with (first
    | (go_at_call 58; (with_reducible refine (TG.out _ MW.out).mono ?_); rintro e w3 ⟨rfl, rfl⟩)
    | (go_at_call 61; (with_reducible refine (B1.out _).mono ?_); rintro e w3 ⟨rfl, rfl⟩)
    | (go_at_call 62; (with_reducible refine (PT.out _ MW.out).mono ?_); rintro e w7 ⟨rfl, s7⟩; have S7 := Aside0.mk s7; obtain ⟨vp7, ve7, m7, n1, n2⟩ := s7.at_; have M7 := Aside0.mk m7; have N7 := Aside0.mk (And.intro n1 n2); have d0 : w7.cell? ⟨L.m, 0, none⟩ = some (.pointer (some ⟨L.r, 0, none⟩)) := m7.cell 0; clear s7 m7 n1 n2)
    | (go_at_call 49; (with_reducible refine (EN.out _ _ _ _ M7.out).mono ?_); rintro e w3 ⟨rfl, rfl⟩)
    | (go_at_call 50; (with_reducible refine (RG.out _ _ _ _ M7.out).mono ?_); rintro e w3 ⟨rfl, rfl⟩))
  first | go_end0 | refine bodyPost_ret (results_none rfl _ _ _) rfl ?_
  exact ⟨rfl, S7.out⟩
set_option maxRecDepth 100000 in
theorem rmark_y3 (w : World) (base : Nat) (L : LocR) (vp ve : Value) (T : Tabs) (pl : Bool) (ps : List (Int × Int)) (l : List Int) (va : Int) (hv : R32 va) (h : RmAt w base L vp ve T pl ps l) (x : Int) (TG : Aside0 (∀ W, RmAt W base L vp ve T pl ps l → Calls Try.prog 58 #[.pointer (some ⟨L.t, 0, none⟩), .int .u32 (va / 512)] W fun e w' => e = .returned (.tuple #[.int .u32 x, .bool true]) ∧ W = w')) (B1 : Aside0 (∀ W, Calls Try.prog 61 #[.int .u32 x, .int .i64 26] W fun e w' => e = .returned (.bool false) ∧ W = w')) (x' : Int) (hx : (x + 67108864) % 4294967296 = x') (PT : Aside0 (∀ W, RmAt W base L vp ve T pl ps l → Calls Try.prog 62 #[.pointer (some ⟨L.t, 0, none⟩), .int .u32 (va / 512), .int .u32 x'] W fun e w' => e = .returned (.tuple #[]) ∧ RStep W w' base L vp ve T pl (putP (va / 512) x' ps) l)) (at_ : Int) (EN : Aside0 (∀ W vp' ve' ps', RmAt W base L vp' ve' T pl ps' l → Calls Try.prog 49 #[.pointer (some ⟨L.m, 0, none⟩), .int .u32 va] W fun e w' => e = .returned (.tuple #[.int .u32 at_, .bool true]) ∧ W = w')) (y er : Int) (RG : Aside0 (∀ W vp' ve' ps', RmAt W base L vp' ve' T pl ps' l → Calls Try.prog 50 #[.pointer (some ⟨L.r, 0, none⟩), .int .u32 at_, .int .i64 4] W fun e w' => e = .returned (.tuple #[.int .u32 y, .int .i64 er]) ∧ W = w')) (her : (er == 0) = true) (B2 : Aside0 (∀ W, Calls Try.prog 61 #[.int .u32 y, .int .i64 26] W fun e w' => e = .returned (.bool true) ∧ W = w')) :
    Calls Try.prog 71 #[.pointer (some ⟨L.m, 0, none⟩), .int .u32 va] w fun e w' => e = .returned (.tuple #[]) ∧ RStep w w' base L vp ve T pl (putP (va / 512) x' ps) l := by
  have MW := Aside0.mk h
  have c0 : w.cell? ⟨L.m, 0, none⟩ = some (.pointer (some ⟨L.r, 0, none⟩)) := h.cell 0
  have c1 : w.cell? ⟨L.m, 1, none⟩ = some (.pointer (some ⟨L.t, 0, none⟩)) := h.cell 1
  have hv0 := hv.1
  have hv1 := hv.2
  have e0 : Int.tdiv va 512 = va / 512 := Int.tdiv_eq_ediv_of_nonneg hv0
  have e3 : va / 512 % 4294967296 = va / 512 := by omega
  clear h hv
  go_enter Try.func71, Try.ntmps71
  go_wp2_with (first
    | (go_at_call 58; (with_reducible refine (TG.out _ MW.out).mono ?_); rintro e w3 ⟨rfl, rfl⟩)
    | (go_at_call 61; (with_reducible refine (B1.out _).mono ?_); rintro e w3 ⟨rfl, rfl⟩)
    | (go_at_call 62; (with_reducible refine (PT.out _ MW.out).mono ?_); rintro e w7 ⟨rfl, s7⟩; have S7 := Aside0.mk s7; obtain ⟨vp7, ve7, m7, n1, n2⟩ := s7.at_; have M7 := Aside0.mk m7; have N7 := Aside0.mk (And.intro n1 n2); have d0 : w7.cell? ⟨L.m, 0, none⟩ = some (.pointer (some ⟨L.r, 0, none⟩)) := m7.cell 0; clear s7 m7 n1 n2)
    | (go_at_call 49; (with_reducible refine (EN.out _ _ _ _ M7.out).mono ?_); rintro e w3 ⟨rfl, rfl⟩)
    | (go_at_call 50; (with_reducible refine (RG.out _ _ _ _ M7.out).mono ?_); rintro e w3 ⟨rfl, rfl⟩)
    | (go_at_call 61; (with_reducible refine (B2.out _).mono ?_); rintro e w3 ⟨rfl, rfl⟩))
  first | go_end0 | refine bodyPost_ret (results_none rfl _ _ _) rfl ?_
  exact ⟨rfl, S7.out⟩
set_option maxRecDepth 100000 in
theorem rmark_y4 (w : World) (base : Nat) (L : LocR) (vp ve : Value) (T : Tabs) (pl : Bool) (ps : List (Int × Int)) (l : List Int) (va : Int) (hv : R32 va) (h : RmAt w base L vp ve T pl ps l) (x : Int) (TG : Aside0 (∀ W, RmAt W base L vp ve T pl ps l → Calls Try.prog 58 #[.pointer (some ⟨L.t, 0, none⟩), .int .u32 (va / 512)] W fun e w' => e = .returned (.tuple #[.int .u32 x, .bool true]) ∧ W = w')) (B1 : Aside0 (∀ W, Calls Try.prog 61 #[.int .u32 x, .int .i64 26] W fun e w' => e = .returned (.bool false) ∧ W = w')) (x' : Int) (hx : (x + 67108864) % 4294967296 = x') (PT : Aside0 (∀ W, RmAt W base L vp ve T pl ps l → Calls Try.prog 62 #[.pointer (some ⟨L.t, 0, none⟩), .int .u32 (va / 512), .int .u32 x'] W fun e w' => e = .returned (.tuple #[]) ∧ RStep W w' base L vp ve T pl (putP (va / 512) x' ps) l)) (at_ : Int) (EN : Aside0 (∀ W vp' ve' ps', RmAt W base L vp' ve' T pl ps' l → Calls Try.prog 49 #[.pointer (some ⟨L.m, 0, none⟩), .int .u32 va] W fun e w' => e = .returned (.tuple #[.int .u32 at_, .bool true]) ∧ W = w')) (y er : Int) (RG : Aside0 (∀ W vp' ve' ps', RmAt W base L vp' ve' T pl ps' l → Calls Try.prog 50 #[.pointer (some ⟨L.r, 0, none⟩), .int .u32 at_, .int .i64 4] W fun e w' => e = .returned (.tuple #[.int .u32 y, .int .i64 er]) ∧ W = w')) (her : (er == 0) = true) (B2 : Aside0 (∀ W, Calls Try.prog 61 #[.int .u32 y, .int .i64 26] W fun e w' => e = .returned (.bool false) ∧ W = w')) (y' : Int) (hy : (y + 67108864) % 4294967296 = y') (l' : List Int) (RP : Aside0 (∀ W vp' ve' ps', RmAt W base L vp' ve' T pl ps' l → Calls Try.prog 44 #[.pointer (some ⟨L.r, 0, none⟩), .int .u32 at_, .int .u32 y', .int .i64 4] W fun e w' => e = .returned (.int .i64 0) ∧ RStep W w' base L vp' ve' T pl ps' l')) :
    Calls Try.prog 71 #[.pointer (some ⟨L.m, 0, none⟩), .int .u32 va] w fun e w' => e = .returned (.tuple #[]) ∧ RStep w w' base L vp ve T pl (putP (va / 512) x' ps) l' := by
  have MW := Aside0.mk h
  have c0 : w.cell? ⟨L.m, 0, none⟩ = some (.pointer (some ⟨L.r, 0, none⟩)) := h.cell 0
  have c1 : w.cell? ⟨L.m, 1, none⟩ = some (.pointer (some ⟨L.t, 0, none⟩)) := h.cell 1
  have hv0 := hv.1
  have hv1 := hv.2
  have e0 : Int.tdiv va 512 = va / 512 := Int.tdiv_eq_ediv_of_nonneg hv0
  have e3 : va / 512 % 4294967296 = va / 512 := by omega
  clear h hv
  go_enter Try.func71, Try.ntmps71
  go_wp2_with (first
    | (go_at_call 58; (with_reducible refine (TG.out _ MW.out).mono ?_); rintro e w3 ⟨rfl, rfl⟩)
    | (go_at_call 61; (with_reducible refine (B1.out _).mono ?_); rintro e w3 ⟨rfl, rfl⟩)
    | (go_at_call 62; (with_reducible refine (PT.out _ MW.out).mono ?_); rintro e w7 ⟨rfl, s7⟩; have S7 := Aside0.mk s7; obtain ⟨vp7, ve7, m7, n1, n2⟩ := s7.at_; have M7 := Aside0.mk m7; have N7 := Aside0.mk (And.intro n1 n2); have d0 : w7.cell? ⟨L.m, 0, none⟩ = some (.pointer (some ⟨L.r, 0, none⟩)) := m7.cell 0; clear s7 m7 n1 n2)
    | (go_at_call 49; (with_reducible refine (EN.out _ _ _ _ M7.out).mono ?_); rintro e w3 ⟨rfl, rfl⟩)
    | (go_at_call 50; (with_reducible refine (RG.out _ _ _ _ M7.out).mono ?_); rintro e w3 ⟨rfl, rfl⟩)
    | (go_at_call 61; (with_reducible refine (B2.out _).mono ?_); rintro e w3 ⟨rfl, rfl⟩)
    | (go_at_call 44; (with_reducible refine (RP.out _ _ _ _ M7.out).mono ?_); rintro e w8 ⟨rfl, s8⟩; have S8 := Aside0.mk s8; clear s8))
  first | go_end0 | refine bodyPost_ret (results_none rfl _ _ _) rfl ?_
  exact ⟨rfl, RStep.via S7.out.chg N7.out.1 N7.out.2 S8.out⟩
theorem rmark_call (w : World) (base : Nat) (L : LocR) (vp ve : Value) (T : Tabs) (pl : Bool) (ps : List (Int × Int)) (l : List Int) (va : Int) (hv : R32 va) (h : RmAt w base L vp ve T pl ps l) (hmen : T.men ≠ 0) :
    Calls Try.prog 71 #[.pointer (some ⟨L.m, 0, none⟩), .int .u32 va] w fun e w' => e = .returned (.tuple #[]) ∧ RStep w w' base L vp ve T pl (markP T ps va) (markL T ps l va) := by
  have ha := atE_r T va
  have B26 : ∀ x, R32 x → ∀ b, wrE x = b → Aside0 (∀ W, Calls Try.prog 61 #[.int .u32 x, .int .i64 26] W fun e w' => e = .returned (.bool b) ∧ W = w') := fun x hx b hb => ⟨fun W => hb ▸ bit26 W x hx⟩
  unfold markP markL
  rw [if_neg hmen, if_neg hmen]
  by_cases hin : posP (va / 512) ps < ps.length
  · rw [if_pos hin, if_pos hin]
    have TG : Aside0 (∀ W, RmAt W base L vp ve T pl ps l → Calls Try.prog 58 #[.pointer (some ⟨L.t, 0, none⟩), .int .u32 (va / 512)] W fun e w' => e = .returned (.tuple #[.int .u32 (entP (va / 512) ps), .bool true]) ∧ W = w') := ⟨fun W k => by
      have := rget_call W base L.t vp ve ps (va / 512) k.tlb
      rwa [decide_eq_true hin] at this⟩
    have hx := rentP_r h (va / 512)
    generalize entP (va / 512) ps = x at *
    cases hw : wrE x
    · simp only [Bool.false_eq_true, if_false]
      have hxo := orM_r hx
      have hox : (x + 67108864) % 4294967296 = orM x := by
        unfold Go.Proofs.Ytiogbgjeimdgmaa.MmuWalk.orM R32 at *
        rw [hw, if_neg (by decide)] at hxo ⊢
        omega
      have PT : Aside0 (∀ W, RmAt W base L vp ve T pl ps l → Calls Try.prog 62 #[.pointer (some ⟨L.t, 0, none⟩), .int .u32 (va / 512), .int .u32 (orM x)] W fun e w' => e = .returned (.tuple #[]) ∧ RStep W w' base L vp ve T pl (putP (va / 512) (orM x) ps) l) := ⟨fun W k =>
        (tput_call W base L.t vp ve ps (va / 512) (orM x) k.nd k.tlb).mono fun e w' ⟨he, s⟩ => ⟨he, k.tlb_step s (fun p hp => by
          rcases putP_mem _ _ _ _ hp with hp | rfl
          · exact k.ents p hp
          · exact ⟨by have := hv.1; have := hv.2; show 0 ≤ va / 512 ∧ va / 512 < 8388608; omega, hxo⟩) (putP_nodup _ _ _ k.nd)⟩⟩
      by_cases hb : atE T va + 4 ≤ l.length
      · have hy := lenum_r h.by_ (atE T va).toNat (by have := ha.1; omega)
        have RG : Aside0 (∀ W vp' ve' ps', RmAt W base L vp' ve' T pl ps' l → Calls Try.prog 50 #[.pointer (some ⟨L.r, 0, none⟩), .int .u32 (atE T va), .int .i64 4] W fun e w' => e = .returned (.tuple #[.int .u32 (leN ((l.drop (atE T va).toNat).take 4)), .int .i64 0]) ∧ W = w') := ⟨fun W vp' ve' ps' k => by
          have := rget_ok W base L.r L.b L.c l k.by_ (atE T va).toNat (by have := ha.2; have := ha.1; omega) k.ram (by have := ha.1; omega)
          rwa [Int.toNat_of_nonneg ha.1] at this⟩
        cases hoff : offE T va
        · have EN : Aside0 (∀ W vp' ve' ps', RmAt W base L vp' ve' T pl ps' l → Calls Try.prog 49 #[.pointer (some ⟨L.m, 0, none⟩), .int .u32 va] W fun e w' => e = .returned (.tuple #[.int .u32 (atE T va), .bool true]) ∧ W = w') := ⟨fun W vp' ve' ps' k => by
            have := rentry_call W base L vp' ve' T pl ps' l va hv k
            rwa [hoff] at this⟩
          cases hw2 : wrE (leN ((l.drop (atE T va).toNat).take 4))
          · have hm : memMark T l va = putL l (atE T va).toNat (orM (leN ((l.drop (atE T va).toNat).take 4))) 4 := by unfold memMark; rw [hoff, if_neg (by decide), if_pos hb]
            rw [hm]
            have hoy : (leN ((l.drop (atE T va).toNat).take 4) + 67108864) % 4294967296 = orM (leN ((l.drop (atE T va).toNat).take 4)) := by
              have hz := orM_r hy
              unfold Go.Proofs.Ytiogbgjeimdgmaa.MmuWalk.orM R32 at *
              rw [hw2, if_neg (by decide)] at hz ⊢
              omega
            generalize leN ((l.drop (atE T va).toNat).take 4) = y at *
            have hz := orM_r hy
            refine rmark_y4 w base L vp ve T pl ps l va hv h x TG (B26 x hx _ hw) (orM x) hox PT _ EN y 0 RG rfl (B26 y hy _ hw2) (orM y) hoy _ ⟨fun W vp' ve' ps' k => ?_⟩
            have hp := rput_ok W base L.r L.b L.c l (atE T va).toNat (orM y) hz (by have := ha.2; have := ha.1; omega) k.ram (by have := ha.1; omega)
            rw [Int.toNat_of_nonneg ha.1] at hp
            refine hp.mono ?_
            rintro e w' ⟨rfl, hr, hg⟩
            exact ⟨rfl, k.ram_step (putL_length _ _ _ _) hr hg (putL_bytes _ k.by_ _ _ _)⟩
          · rw [memMark_wr h.by_ hoff hb hw2]
            exact rmark_y3 w base L vp ve T pl ps l va hv h x TG (B26 x hx _ hw) (orM x) hox PT _ EN _ 0 RG rfl (B26 _ hy _ hw2)
        · have EN : Aside0 (∀ W vp' ve' ps', RmAt W base L vp' ve' T pl ps' l → Calls Try.prog 49 #[.pointer (some ⟨L.m, 0, none⟩), .int .u32 va] W fun e w' => e = .returned (.tuple #[.int .u32 (atE T va), .bool false]) ∧ W = w') := ⟨fun W vp' ve' ps' k => by
            have := rentry_call W base L vp' ve' T pl ps' l va hv k
            rwa [hoff] at this⟩
          have hm : memMark T l va = l := by unfold memMark; rw [hoff, if_pos rfl]
          rw [hm]
          exact rmark_y1 w base L vp ve T pl ps l va hv h x TG (B26 x hx _ hw) (orM x) hox PT _ EN _ 0 RG
      · have RG : Aside0 (∀ W vp' ve' ps', RmAt W base L vp' ve' T pl ps' l → Calls Try.prog 50 #[.pointer (some ⟨L.r, 0, none⟩), .int .u32 (atE T va), .int .i64 4] W fun e w' => e = .returned (.tuple #[.int .u32 0, .int .i64 6]) ∧ W = w') := ⟨fun W vp' ve' ps' k => rget_bus W base L.r L.b L.c l (atE T va) ha k.ram hb⟩
        have hm : memMark T l va = l := by
          unfold memMark
          split
          · rfl
          · first | rfl | rw [if_neg hb]
        rw [hm]
        cases hoff : offE T va
        · have EN : Aside0 (∀ W vp' ve' ps', RmAt W base L vp' ve' T pl ps' l → Calls Try.prog 49 #[.pointer (some ⟨L.m, 0, none⟩), .int .u32 va] W fun e w' => e = .returned (.tuple #[.int .u32 (atE T va), .bool true]) ∧ W = w') := ⟨fun W vp' ve' ps' k => by
            have := rentry_call W base L vp' ve' T pl ps' l va hv k
            rwa [hoff] at this⟩
          exact rmark_y2 w base L vp ve T pl ps l va hv h x TG (B26 x hx _ hw) (orM x) hox PT _ EN 0 6 RG (by decide)
        · have EN : Aside0 (∀ W vp' ve' ps', RmAt W base L vp' ve' T pl ps' l → Calls Try.prog 49 #[.pointer (some ⟨L.m, 0, none⟩), .int .u32 va] W fun e w' => e = .returned (.tuple #[.int .u32 (atE T va), .bool false]) ∧ W = w') := ⟨fun W vp' ve' ps' k => by
            have := rentry_call W base L vp' ve' T pl ps' l va hv k
            rwa [hoff] at this⟩
          exact rmark_y1 w base L vp ve T pl ps l va hv h x TG (B26 x hx _ hw) (orM x) hox PT _ EN 0 6 RG
    · simp only [if_true]
      exact rmark_wr w base L vp ve T pl ps l va hv h x TG (B26 x hx _ hw)
  · rw [if_neg hin, if_neg hin]
    have TG : Aside0 (∀ W, RmAt W base L vp ve T pl ps l → Calls Try.prog 58 #[.pointer (some ⟨L.t, 0, none⟩), .int .u32 (va / 512)] W fun e w' => e = .returned (.tuple #[.int .u32 0, .bool false]) ∧ W = w') := ⟨fun W k => by
      have := rget_call W base L.t vp ve ps (va / 512) k.tlb
      unfold entP at this
      rwa [decide_eq_false hin, if_neg hin] at this⟩
    by_cases hb : atE T va + 4 ≤ l.length
    · have hy := lenum_r h.by_ (atE T va).toNat (by have := ha.1; omega)
      have RG : Aside0 (∀ W vp' ve' ps', RmAt W base L vp' ve' T pl ps' l → Calls Try.prog 50 #[.pointer (some ⟨L.r, 0, none⟩), .int .u32 (atE T va), .int .i64 4] W fun e w' => e = .returned (.tuple #[.int .u32 (leN ((l.drop (atE T va).toNat).take 4)), .int .i64 0]) ∧ W = w') := ⟨fun W vp' ve' ps' k => by
        have := rget_ok W base L.r L.b L.c l k.by_ (atE T va).toNat (by have := ha.2; have := ha.1; omega) k.ram (by have := ha.1; omega)
        rwa [Int.toNat_of_nonneg ha.1] at this⟩
      cases hoff : offE T va
      · have EN : Aside0 (∀ W vp' ve' ps', RmAt W base L vp' ve' T pl ps' l → Calls Try.prog 49 #[.pointer (some ⟨L.m, 0, none⟩), .int .u32 va] W fun e w' => e = .returned (.tuple #[.int .u32 (atE T va), .bool true]) ∧ W = w') := ⟨fun W vp' ve' ps' k => by
          have := rentry_call W base L vp' ve' T pl ps' l va hv k
          rwa [hoff] at this⟩
        cases hw2 : wrE (leN ((l.drop (atE T va).toNat).take 4))
        · have hm : memMark T l va = putL l (atE T va).toNat (orM (leN ((l.drop (atE T va).toNat).take 4))) 4 := by unfold memMark; rw [hoff, if_neg (by decide), if_pos hb]
          rw [hm]
          have hoy : (leN ((l.drop (atE T va).toNat).take 4) + 67108864) % 4294967296 = orM (leN ((l.drop (atE T va).toNat).take 4)) := by
            have hz := orM_r hy
            unfold Go.Proofs.Ytiogbgjeimdgmaa.MmuWalk.orM R32 at *
            rw [hw2, if_neg (by decide)] at hz ⊢
            omega
          generalize leN ((l.drop (atE T va).toNat).take 4) = y at *
          have hz := orM_r hy
          refine rmark_n4 w base L vp ve T pl ps l va hv h 0 TG _ EN y 0 RG rfl (B26 y hy _ hw2) (orM y) hoy _ ⟨fun W vp' ve' ps' k => ?_⟩
          have hp := rput_ok W base L.r L.b L.c l (atE T va).toNat (orM y) hz (by have := ha.2; have := ha.1; omega) k.ram (by have := ha.1; omega)
          rw [Int.toNat_of_nonneg ha.1] at hp
          refine hp.mono ?_
          rintro e w' ⟨rfl, hr, hg⟩
          exact ⟨rfl, k.ram_step (putL_length _ _ _ _) hr hg (putL_bytes _ k.by_ _ _ _)⟩
        · rw [memMark_wr h.by_ hoff hb hw2]
          exact rmark_n3 w base L vp ve T pl ps l va hv h 0 TG _ EN _ 0 RG rfl (B26 _ hy _ hw2)
      · have EN : Aside0 (∀ W vp' ve' ps', RmAt W base L vp' ve' T pl ps' l → Calls Try.prog 49 #[.pointer (some ⟨L.m, 0, none⟩), .int .u32 va] W fun e w' => e = .returned (.tuple #[.int .u32 (atE T va), .bool false]) ∧ W = w') := ⟨fun W vp' ve' ps' k => by
          have := rentry_call W base L vp' ve' T pl ps' l va hv k
          rwa [hoff] at this⟩
        have hm : memMark T l va = l := by unfold memMark; rw [hoff, if_pos rfl]
        rw [hm]
        exact rmark_n1 w base L vp ve T pl ps l va hv h 0 TG _ EN _ 0 RG
    · have RG : Aside0 (∀ W vp' ve' ps', RmAt W base L vp' ve' T pl ps' l → Calls Try.prog 50 #[.pointer (some ⟨L.r, 0, none⟩), .int .u32 (atE T va), .int .i64 4] W fun e w' => e = .returned (.tuple #[.int .u32 0, .int .i64 6]) ∧ W = w') := ⟨fun W vp' ve' ps' k => rget_bus W base L.r L.b L.c l (atE T va) ha k.ram hb⟩
      have hm : memMark T l va = l := by
        unfold memMark
        split
        · rfl
        · first | rfl | rw [if_neg hb]
      rw [hm]
      cases hoff : offE T va
      · have EN : Aside0 (∀ W vp' ve' ps', RmAt W base L vp' ve' T pl ps' l → Calls Try.prog 49 #[.pointer (some ⟨L.m, 0, none⟩), .int .u32 va] W fun e w' => e = .returned (.tuple #[.int .u32 (atE T va), .bool true]) ∧ W = w') := ⟨fun W vp' ve' ps' k => by
          have := rentry_call W base L vp' ve' T pl ps' l va hv k
          rwa [hoff] at this⟩
        exact rmark_n2 w base L vp ve T pl ps l va hv h 0 TG _ EN 0 6 RG (by decide)
      · have EN : Aside0 (∀ W vp' ve' ps', RmAt W base L vp' ve' T pl ps' l → Calls Try.prog 49 #[.pointer (some ⟨L.m, 0, none⟩), .int .u32 va] W fun e w' => e = .returned (.tuple #[.int .u32 (atE T va), .bool false]) ∧ W = w') := ⟨fun W vp' ve' ps' k => by
          have := rentry_call W base L vp' ve' T pl ps' l va hv k
          rwa [hoff] at this⟩
        exact rmark_n1 w base L vp ve T pl ps l va hv h 0 TG _ EN 0 6 RG
end Go.Proofs.Ytiogbgjeimdgmaa.RefWalk
