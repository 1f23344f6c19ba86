/- The scripts of camshaftlaw05: a script's row, great, and what one call does. -/
import Derived.Test.YtiogbgjeimdgmaaRefN
import Derived.Test.YtiogbgjeimdgmaaRowsN
namespace Go.Proofs.Ytiogbgjeimdgmaa.RefWalk
open Go.RowKit Go.Proofs.Ytiogbgjeimdgmaa.Aid Go.Proofs.YtiogbgjeimdgmaaW.PrintWords Go.Proofs.YtiogbgjeimdgmaaW.PrintLast Go.Proofs.YtiogbgjeimdgmaaW.PrintMore
open Go.Proofs.Ytiogbgjeimdgmaa.MmuWalk (Chg R32 Flt fltV noF flt infoF Tabs row_ty own_keep two_ty box1 row_then foot mine MmuAt MStep NextRow mTy noT Pcs findF findF_fit findF_r' stepN szI szI_le storeP storeL byL)
open Go.Proofs.Ytiogbgjeimdgmaa.RamWalk (Bytes leN own_cell putL)
open Go.Proofs.Ytiogbgjeimdgmaa.TlbWalk (RefAt own_then own_val own_some dropP)
attribute [local go_sem] max2_int min2_int max_two min_two max_three min_three max_four min_four   -- for this text's walks alone
set_option linter.unusedVariables false
set_option linter.unusedSimpArgs false
def Cal.none : Cal := ⟨0, 0, 0, 0, false, false, Option.none, 0, 0, ⟨0, 0, 0, 0, 0⟩⟩
def gC (cs : List Cal) (i : Nat) : Cal := cs.getD i .none
structure CalOk (w : World) (c : Cal) : Prop where
  va : R32 c.va
  x : R32 c.x
  n0 : -9223372036854775808 ≤ c.n
  cap : c.nb ≤ c.cb
  T : c.T.ok
  bs : ∃ bs : List Int, bs.length = c.nb ∧ Bytes bs ∧ ReadsInt w .u8 c.A c.nb bs
def CalRow (W : World) (A : Option Addr) (cs : List Cal) : Prop := 0 < cs.length → ∃ b off, A = some ⟨b, off, Option.none⟩ ∧ b < W.heap.size ∧ ∀ i, i < cs.length → ∀ j v, (gC cs i).cells[j]? = some v → W.cell? ⟨b, off + i * 12 + j, Option.none⟩ = some v
theorem ex_list05 {β : Type} (d : β) (p : Nat → β → Prop) : ∀ n : Nat, (∀ i, i < n → ∃ b, p i b) → ∃ bs : List β, bs.length = n ∧ ∀ i, i < n → p i (bs.getD i d)
  | 0, _ => ⟨[], rfl, fun i h => by omega⟩
  | n + 1, h => by
    obtain ⟨bs, hl, hp⟩ := ex_list05 d p n (fun i hi => h i (by omega))
    obtain ⟨b, hb⟩ := h n (by omega)
    refine ⟨bs ++ [b], by simp [hl], fun i hi => ?_⟩
    by_cases hin : i < n
    · have := hp i hin
      rw [List.getD_eq_getElem?_getD, List.getElem?_append_left (by omega), ← List.getD_eq_getElem?_getD]
      exact this
    · have hie : i = n := by omega
      subst hie
      rw [List.getD_eq_getElem?_getD, List.getElem?_append_right (by omega), hl]
      simpa using hb
theorem i64_wf {x : Int} (h : (Lit.int .i64 x).wf = true) : -9223372036854775808 ≤ x ∧ x ≤ 9223372036854775807 := by
  simp [Lit.wf] at h
  have e1 : IntKind.i64.min = -9223372036854775808 := by decide
  have e2 : IntKind.i64.max = 9223372036854775807 := by decide
  omega
theorem calRow {w : World} {A : Option Addr} {len cap : Nat} (h : IsRowN 12 CallV w A len cap) : ∃ cs : List Cal, cs.length = len ∧ CalRow w A cs ∧ ∀ i, i < len → CalOk w (gC cs i) := by
  by_cases hp : 0 < len
  · obtain ⟨x, rfl, hx⟩ := h.2 hp
    obtain ⟨b, off, spot⟩ := x
    have hsb : spot = Option.none ∧ b < w.heap.size := by
      obtain ⟨vs, ⟨kd, va, x, n, u, wr, A', nb, cb, z, t1, t2, t3, t4, t5, rfl, _⟩, _, hc⟩ := hx 0 hp
      have c0 := hc 0 _ rfl
      exact ⟨by simpa [Addr.add] using World.cell?_spot c0, by simpa [Addr.add] using World.block_lt_of_cell? w _ c0⟩
    obtain ⟨rfl, hb⟩ := hsb
    have ap : ∀ (o i : Nat), ((⟨b, o, Option.none⟩ : Addr).add i) = ⟨b, o + i, Option.none⟩ := by
      intro o i
      unfold Addr.add
      by_cases hi : i = 0 <;> simp [hi]
    have r : ∀ {x : Int}, (Lit.int .u32 x).wf = true → R32 x := fun {x} h => by
      obtain ⟨n, rfl, hn⟩ := u32_nat h
      unfold R32; omega
    obtain ⟨cs, hl, he⟩ := ex_list05 Cal.none (fun i (e : Cal) => (∀ j v, e.cells[j]? = some v → w.cell? ⟨b, off + i * 12 + j, Option.none⟩ = some v) ∧ CalOk w e) len (fun i hi => by
      obtain ⟨vs, ⟨kd, va, x, n, u, wr, A', nb, cb, z, t1, t2, t3, t4, t5, rfl, hr, k0, k1, k2, k3, k4, k5, k6, k7, k8⟩, _, hc⟩ := hx i hi
      refine ⟨⟨kd, va, x, n, u, wr, A', nb, cb, ⟨t1, t2, t3, t4, t5⟩⟩, fun j v hj => ?_, ⟨r k1, r k2, ?_, ?_, ⟨r k4, r k5, r k6, r k7, r k8⟩, ?_⟩⟩
      · have := hc j v (by simpa [Cal.cells] using hj)
        rw [ap] at this
        rw [Nat.add_assoc]; exact this
      · exact (i64_wf k3).1
      · obtain ⟨l, e, _, hm, _, _⟩ := ReadsInt.ofRowC hr
        show nb ≤ cb
        omega
      · obtain ⟨l, e, hr, hm, hwf, hc⟩ := ReadsInt.ofRowC hr
        exact ⟨l, e.symm, fun x hx => by obtain ⟨j, rfl, hj⟩ := u8_nat (hwf x hx); omega, by show ReadsInt w .u8 A' nb l; rw [e]; exact hr⟩)
    exact ⟨cs, hl, fun _ => ⟨b, off, rfl, hb, fun i hi => (he i (by omega)).1⟩, fun i hi => (he i hi).2⟩
  · exact ⟨[], by simp; omega, fun h => absurd h (by simp), fun i hi => by omega⟩
theorem CalRow.then {w w' : World} {A : Option Addr} {cs : List Cal} (h : CalRow w A cs) (k : Below w.heap.size w w') : CalRow w' A cs := fun hp => by
  obtain ⟨b, off, rfl, hb, hc⟩ := h hp
  exact ⟨b, off, rfl, Nat.lt_of_lt_of_le hb k.size, fun i hi j v hv => (k.cell (p := ⟨b, off + i * 12 + j, Option.none⟩) hb).trans (hc i hi j v hv)⟩
theorem CalOk.then {w w' : World} {c : Cal} (h : CalOk w c) (k : Below w.heap.size w w') : CalOk w' c := by
  obtain ⟨a, b, d, e, f, bs, g1, g2, g3⟩ := h
  exact ⟨a, b, d, e, f, bs, g1, g2, g3.below k⟩
def fineC (c : Cal) : Prop := c.n ≤ 1024 ∧ c.nb ≤ 1024
def GreatP (w : World) (n : Nat) (cs : List Cal) (e : Ending) (w' : World) : Prop := ∃ g : Bool, e = .returned (.bool g) ∧ (g = false → n ≤ 60 ∧ ∀ i, i < n → fineC (gC cs i)) ∧ (g = true → ¬ (n ≤ 60 ∧ ∀ i, i < n → fineC (gC cs i))) ∧ Below w.heap.size w w'
set_option maxRecDepth 100000 in
set_option maxHeartbeats 8000000 in
theorem great_call (w : World) (A : Option Addr) (c0 : Nat) (cs : List Cal) (n : Nat) (hn : cs.length = n) (hn2 : n ≤ 9223372036854775807) (r : CalRow w A cs) :
    Calls Try.prog 48 #[.slice A n c0] w fun e w' => GreatP w n cs e w' := by
  have R := Aside0.mk r
  have HN := Aside0.mk hn
  have H2 := Aside0.mk hn2
  clear r hn
  go_enter Try.func48, Try.ntmps48
  go_wp2_with fail
  go_loopw [7] (fun iv wr => ∃ k : Nat, k ≤ n ∧ iv = .int .i64 k ∧ Aside0 (Below w.heap.size w wr ∧ ∀ i, i < k → fineC (gC cs i))) (fun iv _ => n - (intOf iv).toNat)
  case atStart => exact ⟨0, Nat.zero_le _, rfl, ⟨Below.refl _ _, fun i hi => by omega⟩⟩
  case round =>
    obtain ⟨k, hk, rfl, T⟩ := hrel
    have B := Aside0.mk T.out.1
    by_cases hkn : k = n
    · subst hkn
      by_cases h6 : (60 : Int) < k
      · go_wp2
        go_ret
        exact ⟨true, rfl, (fun h => by cases h), (fun _ hh => by have := hh.1; omega), B.out⟩
      · go_wp2
        go_ret
        exact ⟨false, rfl, (fun _ => ⟨by omega, T.out.2⟩), (fun h => by cases h), B.out⟩
    · have hk' : k < n := by omega
      obtain ⟨b, off, rfl, hbl, hc⟩ := R.out (by have := HN.out; omega)
      have hc := hc k (by have := HN.out; omega)
      have hT := T.out.2
      have hg : ∀ i, i < k + 1 → fineC (gC cs k) → fineC (gC cs i) := fun i hi hf => by
        by_cases e : i = k
        · subst e; exact hf
        · exact hT i (by omega)
      have HG := Aside0.mk hg
      obtain ⟨e, he⟩ : ∃ e, gC cs k = e := ⟨_, rfl⟩
      rw [he] at hc HG
      have HE := Aside0.mk he
      clear hT hg he
      obtain ⟨kd, va, x, nn, u, wq, A', nb, cb, t1, t2, t3, t4, t5⟩ := e
      have dd : ∀ j v, (#[.int .i64 kd, .int .u32 va, .int .u32 x, .int .i64 nn, .bool u, .bool wq, .slice A' nb cb, .int .u32 t1, .int .u32 t2, .int .u32 t3, .int .u32 t4, .int .u32 t5] : Array Value)[j]? = some v → wr.cell? ⟨b, off + k * 12 + j, Option.none⟩ = some v := fun j v hj => (B.out.cell (p := ⟨b, off + k * 12 + j, Option.none⟩) hbl).trans (hc j v hj)
      have d0 := dd 0 _ rfl
      have d1 := dd 1 _ rfl
      have d2 := dd 2 _ rfl
      have d3 := dd 3 _ rfl
      have d4 := dd 4 _ rfl
      have d5 := dd 5 _ rfl
      have d6 := dd 6 _ rfl
      have d7 := dd 7 _ rfl
      have d8 := dd 8 _ rfl
      have d9 := dd 9 _ rfl
      have d10 := dd 10 _ rfl
      have d11 := dd 11 _ rfl
      rw [Nat.add_zero] at d0
      have HK := Aside0.mk hk'
      clear hc dd T
      by_cases h1 : (1024 : Int) < nn
      · go_wp2
        go_ret
        exact ⟨true, rfl, (fun h => by cases h), (fun _ hh => by have q := hh.2 k hk'; rw [HE.out] at q; unfold fineC at q; simp only at q; omega), below_alloc B.out _⟩
      · by_cases h2 : (1024 : Int) < nb
        · go_wp2
          go_ret
          exact ⟨true, rfl, (fun h => by cases h), (fun _ hh => by have q := hh.2 k hk'; rw [HE.out] at q; unfold fineC at q; simp only at q; omega), below_alloc B.out _⟩
        · have FN : Aside0 (nn ≤ 1024 ∧ nb ≤ 1024) := ⟨by omega, by omega⟩
          go_wp2
          go_roundw
          case rel => exact ⟨k + 1, HK.out, by go_num, ⟨below_alloc B.out _, fun i hi => HG.out i hi FN.out⟩⟩
          case measure => have := HK.out; simp [intOf]; omega
theorem great_no (w : World) (A : Option Addr) (c0 : Nat) (cs : List Cal) (n : Nat) (hn : cs.length = n) (hn2 : n ≤ 9223372036854775807) (r : CalRow w A cs) (H : n ≤ 60 ∧ ∀ i, i < n → fineC (gC cs i)) :
    Calls Try.prog 48 #[.slice A n c0] w fun e w' => e = .returned (.bool false) ∧ Below w.heap.size w w' :=
  (great_call w A c0 cs n hn hn2 r).mono fun e w' ⟨g, h1, h2, h3, h4⟩ => by
    cases g
    · exact ⟨h1, h4⟩
    · exact absurd H (h3 rfl)
theorem great_yes (w : World) (A : Option Addr) (c0 : Nat) (cs : List Cal) (n : Nat) (hn : cs.length = n) (hn2 : n ≤ 9223372036854775807) (r : CalRow w A cs) (H : ¬ (n ≤ 60 ∧ ∀ i, i < n → fineC (gC cs i))) :
    Calls Try.prog 48 #[.slice A n c0] w fun e w' => e = .returned (.bool true) ∧ Below w.heap.size w w' :=
  (great_call w A c0 cs n hn hn2 r).mono fun e w' ⟨g, h1, h2, h3, h4⟩ => by
    cases g
    · exact absurd (h2 rfl) H
    · exact ⟨h1, h4⟩
set_option maxHeartbeats 2000000 in
/-- Where both begin alike, one call leaves them alike. -/
theorem does_any (T : Tabs) (ps : List (Int × Int)) (l : List Int) (c : Cal) (w0 WF : World) (F : Nat → Prop) (ho : CalOk w0 c) (hf : fineC c) :
    ∃ T' ps' l', ∀ (w : World) (L R : LocR) (v vp ve : Value), DU w0 WF F w L R v vp ve T ps l T false ps l →
      Calls Try.prog 51 #[.pointer (some ⟨L.r, 0, none⟩), .pointer (some ⟨L.m, 0, none⟩), .pointer (some ⟨R.m, 0, none⟩), .agg c.cells] w fun e w' => e = .returned (.bool true) ∧ ∃ v' vp' ve', DU w0 WF F w' L R v' vp' ve' T' ps' l' T' false ps' l' := by
  obtain ⟨hv, hx, hn0, hcap, hT, bs, hlen, hby, hr⟩ := ho
  obtain ⟨hn, hnb⟩ := hf
  obtain ⟨kd, va, x, n, u, wr, A, nb, cb, t1, t2, t3, t4, t5⟩ := c
  by_cases k0 : kd = 0
  · subst k0
    obtain ⟨xs, ⟨fk, fv, fi⟩, ps', p⟩ := Pcs.ex T l u false true _ ps va (szI n) (Nat.le_refl _)
    exact ⟨T, ps', l, fun w L R v vp ve h => does_get w0 WF F w L R v vp ve T false ps ps l va x n u wr A nb cb t1 t2 t3 t4 t5 h hv xs fk fv fi ps' ps' p p⟩
  by_cases k1 : kd = 1
  · subst k1
    obtain ⟨xs, ⟨fk, fv, fi⟩, ps', p⟩ := Pcs.ex T l u true true _ ps va (szI n) (Nat.le_refl _)
    exact ⟨T, _, _, fun w L R v vp ve h => does_put w0 WF F w L R v vp ve T false ps ps l va x n u wr A nb cb t1 t2 t3 t4 t5 h hv hx xs fk fv fi ps' ps' p p _ _ _ rfl rfl rfl rfl⟩
  by_cases k2 : kd = 2
  · subst k2
    obtain ⟨xs, ⟨fk, fv, fi⟩, ps', p⟩ := Pcs.ex T l u false true _ ps va n (Nat.le_refl _)
    exact ⟨T, ps', l, fun w L R v vp ve h => does_load w0 WF F w L R v vp ve T false ps ps l va x n u wr A nb cb t1 t2 t3 t4 t5 h hv hn hn0 xs fk fv fi ps' ps' p p⟩
  by_cases k3 : kd = 3
  · subst k3
    obtain ⟨xs, ⟨fk, fv, fi⟩, ps', p⟩ := Pcs.ex T l u true true _ ps va nb (Nat.le_refl _)
    exact ⟨T, _, _, fun w L R v vp ve h => does_store w0 WF F w L R v vp ve T false ps ps l va x n u wr A nb cb t1 t2 t3 t4 t5 h hv bs hlen hnb hcap hby hr xs fk fv fi ps' ps' p p _ _ _ rfl rfl rfl rfl⟩
  by_cases k4 : kd = 4
  · subst k4
    obtain ⟨xs, ⟨fk, fv, fi⟩, ps', p⟩ := Pcs.ex T l u wr true _ ps va n (Nat.le_refl _)
    exact ⟨T, ps', l, fun w L R v vp ve h => does_probe w0 WF F w L R v vp ve T false ps ps l va x n u wr A nb cb t1 t2 t3 t4 t5 h hv hn hn0 xs fk fv fi ps' ps' p p⟩
  by_cases k5 : kd = 5
  · subst k5
    refine ⟨T, ps, l, fun w L R v vp ve h => ?_⟩
    obtain ⟨⟨pa, fk, fv, fi⟩, hF⟩ : ∃ r, findF T ps l va 1 u false = r := ⟨_, rfl⟩
    by_cases hk : fk = 0
    · have hfit := @findF_fit T ps l va 1 u false (by rw [hF]; exact hk)
      have hr := Go.Proofs.Ytiogbgjeimdgmaa.MmuWalk.findF_r h.m va 1 hv u false
      rw [hF] at hfit hr
      obtain ⟨h1, h2⟩ := hfit
      simp only at h1 h2 hr
      obtain ⟨q, rfl⟩ : ∃ q : Nat, pa = q := ⟨pa.toNat, by have := hr.1; omega⟩
      rw [h2] at hF
      exact does_peek_y w0 WF F w L R v vp ve T false ps ps l va x n u wr A nb cb t1 t2 t3 t4 t5 h hv rfl q hF (by omega)
    · exact does_peek_f w0 WF F w L R v vp ve T false ps ps l va x n u wr A nb cb t1 t2 t3 t4 t5 h hv rfl pa fk fv fi hF (beq_eq_false_iff_ne.mpr hk)
  by_cases k6 : kd = 6
  · subst k6
    exact ⟨⟨t1, t2, t3, t4, t5⟩, [], l, fun w L R v vp ve h => does_set w0 WF F w L R v vp ve T false ps ps l va x n u wr A nb cb t1 t2 t3 t4 t5 h hT⟩
  by_cases k7 : kd = 7
  · subst k7
    exact ⟨T, [], l, fun w L R v vp ve h => does_clear w0 WF F w L R v vp ve T false ps ps l va x n u wr A nb cb t1 t2 t3 t4 t5 h⟩
  by_cases k8 : kd = 8
  · subst k8
    exact ⟨T, _, l, fun w L R v vp ve h => does_drop w0 WF F w L R v vp ve T false ps ps l va x n u wr A nb cb t1 t2 t3 t4 t5 h hv⟩
  by_cases k9 : kd = 9
  · subst k9
    by_cases hl : va + 4 ≤ l.length
    · exact ⟨T, ps, _, fun w L R v vp ve h => does_ram_ok w0 WF F w L R v vp ve T false ps ps l va x n u wr A nb cb t1 t2 t3 t4 t5 h hv hx hl _ rfl⟩
    · exact ⟨T, ps, l, fun w L R v vp ve h => does_ram_bus w0 WF F w L R v vp ve T false ps ps l va x n u wr A nb cb t1 t2 t3 t4 t5 h hv hx hl⟩
  exact ⟨T, ps, l, fun w L R v vp ve h => does_other w0 WF F w L R v vp ve T false ps ps l kd va x n u wr A nb cb t1 t2 t3 t4 t5 h (beq_eq_false_iff_ne.mpr k0) (beq_eq_false_iff_ne.mpr k1) (beq_eq_false_iff_ne.mpr k2) (beq_eq_false_iff_ne.mpr k3) (beq_eq_false_iff_ne.mpr k4) (beq_eq_false_iff_ne.mpr k5) (beq_eq_false_iff_ne.mpr k6) (beq_eq_false_iff_ne.mpr k7) (beq_eq_false_iff_ne.mpr k8) (beq_eq_false_iff_ne.mpr k9)⟩
end Go.Proofs.Ytiogbgjeimdgmaa.RefWalk
