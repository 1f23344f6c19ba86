/- The document's MMU: Find, its contract. -/
import Derived.Test.YtiogbgjeimdgmaaRefE
namespace Go.Proofs.Ytiogbgjeimdgmaa.RefWalk
open Go.RowKit Go.Proofs.Ytiogbgjeimdgmaa.Aid Go.Proofs.YtiogbgjeimdgmaaW.PrintWords Go.Proofs.YtiogbgjeimdgmaaW.PrintLast Go.Proofs.YtiogbgjeimdgmaaW.PrintMore
open Go.Proofs.Ytiogbgjeimdgmaa.MmuWalk (Chg R32 protE isE wrE placeE placeE_r mayE Flt fltV noF flt infoF leN_snoc szI Tabs noT noT_ok row_ty own_keep two_ty findF findP entryF entryP lookF memF offE atE atE_r lenT baseT pageE box1 row_then lenum_r)
open Go.Proofs.Ytiogbgjeimdgmaa.RamWalk (Bytes leN leN_bounds putL putL_length putL_bytes grown_put grown_drewN grown_refl grown_drew info5)
open Go.Proofs.Ytiogbgjeimdgmaa.TlbWalk (RefAt putP dropP posP posP_page entP nil2 own_then rget_call mem_getD putP_mem putP_nodup)
set_option linter.unusedVariables false
set_option linter.unusedSimpArgs false
theorem rentP_r {W : World} {base : Nat} {L : LocR} {vp ve : Value} {T : Tabs} {pl : Bool} {ps : List (Int × Int)} {l : List Int} (h : RmAt W base L vp ve T pl ps l) (pg : Int) : R32 (entP pg ps) := by
  unfold entP
  split
  · rename_i hp
    exact (h.ents _ (mem_getD ps _ hp)).2
  · exact ⟨by decide, by decide⟩
theorem findF_bad {T : Tabs} {ps : List (Int × Int)} {l : List Int} {va n : Int} {u wr : Bool} {f : Flt} (hm : T.men ≠ 0) (h : entryF T ps l va u wr = (0, f)) (hf : f.1 ≠ 0) : findF T ps l va n u wr = (0, f) := by
  unfold findF
  rw [if_neg hm, h, if_pos hf]
theorem findF_good {T : Tabs} {ps : List (Int × Int)} {l : List Int} {va n x : Int} {u wr : Bool} (hm : T.men ≠ 0) (h : entryF T ps l va u wr = (x, noF)) : findF T ps l va n u wr = if placeE x va + n ≤ l.length then (placeE x va, noF) else (0, flt 1 va 0 wr) := by
  unfold findF
  rw [if_neg hm, h, if_neg (by simp [noF])]
theorem entryF_may {T : Tabs} {ps : List (Int × Int)} {l : List Int} {va x : Int} {u wr : Bool} (h : lookF T ps l va wr = (x, noF)) (hm : mayE x u wr = false) : entryF T ps l va u wr = (0, flt 2 va 0 wr) := by
  unfold entryF
  rw [h, if_neg (by simp [noF]), hm, if_pos rfl]
theorem entryF_is {T : Tabs} {ps : List (Int × Int)} {l : List Int} {va x : Int} {u wr : Bool} (h : lookF T ps l va wr = (x, noF)) (hm : mayE x u wr = true) (hi : isE x = false) : entryF T ps l va u wr = (0, flt 3 va 0 wr) := by
  unfold entryF
  rw [h, if_neg (by simp [noF]), hm, if_neg (by decide), hi, if_pos rfl]
theorem entryF_ok {T : Tabs} {ps : List (Int × Int)} {l : List Int} {va x : Int} {u wr : Bool} (h : lookF T ps l va wr = (x, noF)) (hm : mayE x u wr = true) (hi : isE x = true) : entryF T ps l va u wr = (x, noF) := by
  unfold entryF
  rw [h, if_neg (by simp [noF]), hm, if_neg (by decide), hi, if_neg (by decide)]
theorem entryF_no {T : Tabs} {ps : List (Int × Int)} {l : List Int} {va : Int} {u wr : Bool} {f : Flt} (h : lookF T ps l va wr = (0, f)) (hf : f.1 ≠ 0) : entryF T ps l va u wr = (0, f) := by
  unfold entryF
  rw [h, if_pos hf]
theorem findP_no {T : Tabs} {ps : List (Int × Int)} {l : List Int} {va : Int} {u wr k : Bool} {f : Flt} (h : entryF T ps l va u wr = (0, f)) (hf : f.1 ≠ 0) : findP T ps l va u wr k = ps := by
  unfold findP entryP
  split
  · rfl
  · rw [h, if_neg (fun c => hf c.1)]
theorem findP_in {T : Tabs} {ps : List (Int × Int)} {l : List Int} {va : Int} {u wr k : Bool} (h : posP (va / 512) ps < ps.length) : findP T ps l va u wr k = ps := by
  unfold findP entryP
  split
  · rfl
  · rw [if_neg (fun c => c.2.1 h)]
theorem findP_nk {T : Tabs} {ps : List (Int × Int)} {l : List Int} {va : Int} {u wr : Bool} : findP T ps l va u wr false = ps := by
  unfold findP entryP
  split
  · rfl
  · rw [if_neg (fun c => by cases c.2.2)]
theorem findP_put {T : Tabs} {ps : List (Int × Int)} {l : List Int} {va x : Int} {u wr : Bool} (hm : T.men ≠ 0) (h : entryF T ps l va u wr = (x, noF)) (hin : ¬ posP (va / 512) ps < ps.length) : findP T ps l va u wr true = putP (va / 512) x ps := by
  unfold findP entryP
  rw [if_neg hm, h, if_pos ⟨rfl, hin, rfl⟩]
theorem rfind_call (w : World) (base : Nat) (L : LocR) (vp ve : Value) (T : Tabs) (pl : Bool) (ps : List (Int × Int)) (l : List Int) (va : Int) (n : Nat) (u wr keep : Bool) (hv : R32 va) (h : RmAt w base L vp ve T pl ps l) :
    Calls Try.prog 24 #[.pointer (some ⟨L.m, 0, none⟩), .int .u32 va, .int .i64 n, .bool u, .bool wr, .bool keep] w fun e w' => e = .returned (.tuple #[.int .u32 (findF T ps l va n u wr).1, fltV (findF T ps l va n u wr).2]) ∧ RStep w w' base L vp ve T pl (findP T ps l va u wr (keep && !pl)) l := by
  have BW : ∀ {a : Array Value} {e0 : Ending} , Calls Try.prog 24 a w (fun e w' => e = e0 ∧ Below w.heap.size w w') → Calls Try.prog 24 a w (fun e w' => e = e0 ∧ RStep w w' base L vp ve T pl ps l) := fun h1 => h1.mono fun e w' ⟨he, hb⟩ => ⟨he, RStep.of_below h hb⟩
  have FA : ∀ k i, i = 0 ∨ i = 1 → Aside0 (∀ W, Calls Try.prog 59 #[.int .i64 k, .int .u32 va, .int .u32 i, .bool wr] W fun e w' => e = .returned (.agg #[.int .i64 k, .int .u32 va, .int .u32 (flt k va i wr).2.2]) ∧ Below W.heap.size W w') := fun k i hi => ⟨fun W => rfault_call W va wr k i hi⟩
  have TY : ∀ pa, R32 pa → pa + (n : Int) ≤ l.length → Aside0 (∀ W vp' ve' ps', RmAt W base L vp' ve' T pl ps' l → Calls Try.prog 55 #[.pointer (some ⟨L.r, 0, none⟩), .int .u32 pa, .int .i64 n] W fun e w' => e = .returned (.bool true) ∧ W = w') := fun pa hp hl => ⟨fun W vp' ve' ps' k => there_yes W base L.r L.b L.c l pa n hp k.ram (by omega) hl⟩
  have TN : ∀ pa, R32 pa → ¬ pa + (n : Int) ≤ l.length → Aside0 (∀ W vp' ve' ps', RmAt W base L vp' ve' T pl ps' l → Calls Try.prog 55 #[.pointer (some ⟨L.r, 0, none⟩), .int .u32 pa, .int .i64 n] W fun e w' => e = .returned (.bool false) ∧ W = w') := fun pa hp hl => ⟨fun W vp' ve' ps' k => there_no W base L.r L.b L.c l pa n hp k.ram (fun c => hl c.2)⟩
  by_cases hm : T.men = 0
  · have hP : findP T ps l va u wr (keep && !pl) = ps := by unfold findP; rw [if_pos hm]
    rw [hP]
    by_cases hl : va + n ≤ l.length
    · have hF : findF T ps l va n u wr = (va, noF) := by unfold findF; rw [if_pos hm, if_pos hl]
      rw [hF]
      exact BW (rf_m0_ok w base L vp ve T pl ps l va 0 n u wr keep hv h hm (TY va hv hl))
    · have hF : findF T ps l va n u wr = (0, flt 1 va 0 wr) := by unfold findF; rw [if_pos hm, if_neg hl]
      rw [hF]
      exact BW (rf_m0_bus w base L vp ve T pl ps l va 0 n u wr keep hv h hm (TN va hv hl) _ (FA 1 0 (.inl rfl)))
  · have hm' : (T.men == 0) = false := beq_eq_false_iff_ne.mpr hm
    have PP : ∀ x, R32 x → Aside0 (∀ W, Calls Try.prog 63 #[.int .u32 x, .int .u32 va] W fun e w' => e = .returned (.int .u32 (placeE x va)) ∧ W = w') := fun x hx => ⟨fun W => rplace_call W x va hx hv⟩
    by_cases hin : posP (va / 512) ps < ps.length
    · rw [findP_in hin]
      have hk : lookF T ps l va wr = (entP (va / 512) ps, noF) := by unfold lookF; rw [if_pos hin]
      have TG : Aside0 (∀ W, RmAt W base L vp ve T pl ps l → Calls Try.prog 58 #[.pointer (some ⟨L.t, 0, none⟩), .int .u32 (va / 512)] W fun e w' => e = .returned (.tuple #[.int .u32 (entP (va / 512) ps), .bool true]) ∧ W = w') := ⟨fun W k => by
        have := rget_call W base L.t vp ve ps (va / 512) k.tlb
        rwa [decide_eq_true hin] at this⟩
      have hx := rentP_r h (va / 512)
      generalize entP (va / 512) ps = x at *
      have MY : ∀ b, mayE x u wr = b → Aside0 (∀ W, Calls Try.prog 60 #[.int .u32 x, .bool u, .bool wr] W fun e w' => e = .returned (.bool b) ∧ W = w') := fun b hb => ⟨fun W => hb ▸ rmay_call W x u wr hx⟩
      have BI : ∀ b, isE x = b → Aside0 (∀ W, Calls Try.prog 61 #[.int .u32 x, .int .i64 31] W fun e w' => e = .returned (.bool b) ∧ W = w') := fun b hb => ⟨fun W => hb ▸ bit31 W x hx⟩
      cases h1 : mayE x u wr
      · rw [findF_bad hm (entryF_may hk h1) (by decide : (2 : Int) ≠ 0)]
        exact BW (rf_y_may w base L vp ve T pl ps l va x n u wr keep hv h hm' TG (MY _ h1) _ (FA 2 0 (.inl rfl)))
      · cases h2 : isE x
        · rw [findF_bad hm (entryF_is hk h1 h2) (by decide : (3 : Int) ≠ 0)]
          exact BW (rf_y_is w base L vp ve T pl ps l va x n u wr keep hv h hm' TG (MY _ h1) (BI _ h2) _ (FA 3 0 (.inl rfl)))
        · rw [findF_good hm (entryF_ok hk h1 h2)]
          by_cases hl : placeE x va + n ≤ l.length
          · rw [if_pos hl]
            exact BW (rf_y_ok w base L vp ve T pl ps l va x n u wr keep hv h hm' TG (MY _ h1) (BI _ h2) _ (PP x hx) (TY _ (placeE_r x va) hl))
          · rw [if_neg hl]
            exact BW (rf_y_bus w base L vp ve T pl ps l va x n u wr keep hv h hm' TG (MY _ h1) (BI _ h2) _ (PP x hx) (TN _ (placeE_r x va) hl) _ (FA 1 0 (.inl rfl)))
    · have hk : lookF T ps l va wr = memF T l va wr := by unfold lookF; rw [if_neg hin]
      have TG : Aside0 (∀ W, RmAt W base L vp ve T pl ps l → Calls Try.prog 58 #[.pointer (some ⟨L.t, 0, none⟩), .int .u32 (va / 512)] W fun e w' => e = .returned (.tuple #[.int .u32 0, .bool false]) ∧ W = w') := ⟨fun W k => by
        have := rget_call W base L.t vp ve ps (va / 512) k.tlb
        unfold entP at this
        rwa [decide_eq_false hin, if_neg hin] at this⟩
      have ha := atE_r T va
      cases hoff : offE T va
      · have EN : Aside0 (∀ W, RmAt W base L vp ve T pl ps l → Calls Try.prog 49 #[.pointer (some ⟨L.m, 0, none⟩), .int .u32 va] W fun e w' => e = .returned (.tuple #[.int .u32 (atE T va), .bool true]) ∧ W = w') := ⟨fun W k => by
          have := rentry_call W base L vp ve T pl ps l va hv k
          rwa [hoff] at this⟩
        by_cases hb : atE T va + 4 ≤ l.length
        · have hmem : memF T l va wr = (leN ((l.drop (atE T va).toNat).take 4), noF) := by unfold memF; rw [hoff, if_neg (by decide), if_pos hb]
          have hz := lenum_r h.by_ (atE T va).toNat (by have := ha.1; omega)
          have RG : Aside0 (∀ W, RmAt W base L vp ve T pl ps l → Calls Try.prog 50 #[.pointer (some ⟨L.r, 0, none⟩), .int .u32 (atE T va), .int .i64 4] W fun e w' => e = .returned (.tuple #[.int .u32 (leN ((l.drop (atE T va).toNat).take 4)), .int .i64 0]) ∧ W = w') := ⟨fun W k => by
            have := rget_ok W base L.r L.b L.c l k.by_ (atE T va).toNat (by have := ha.2; have := ha.1; omega) k.ram (by have := ha.1; omega)
            rwa [Int.toNat_of_nonneg ha.1] at this⟩
          rw [hmem] at hk
          clear hmem
          generalize leN ((l.drop (atE T va).toNat).take 4) = z at *
          have MY : ∀ b, mayE z u wr = b → Aside0 (∀ W, Calls Try.prog 60 #[.int .u32 z, .bool u, .bool wr] W fun e w' => e = .returned (.bool b) ∧ W = w') := fun b hb => ⟨fun W => hb ▸ rmay_call W z u wr hz⟩
          have BI : ∀ b, isE z = b → Aside0 (∀ W, Calls Try.prog 61 #[.int .u32 z, .int .i64 31] W fun e w' => e = .returned (.bool b) ∧ W = w') := fun b hb => ⟨fun W => hb ▸ bit31 W z hz⟩
          cases h1 : mayE z u wr
          · have hE := entryF_may (u := u) hk h1
            rw [findP_no hE (by decide : (2 : Int) ≠ 0), findF_bad hm hE (by decide : (2 : Int) ≠ 0)]
            exact BW (rf_n_may w base L vp ve T pl ps l va 0 n u wr keep hv h hm' TG _ EN z 0 rfl RG (MY _ h1) _ (FA 2 0 (.inl rfl)))
          · cases h2 : isE z
            · have hE := entryF_is hk h1 h2
              rw [findP_no hE (by decide : (3 : Int) ≠ 0), findF_bad hm hE (by decide : (3 : Int) ≠ 0)]
              exact BW (rf_n_is w base L vp ve T pl ps l va 0 n u wr keep hv h hm' TG _ EN z 0 rfl RG (MY _ h1) (BI _ h2) _ (FA 3 0 (.inl rfl)))
            · have hE := entryF_ok hk h1 h2
              have PT : Aside0 (∀ W, RmAt W base L vp ve T pl ps l → Calls Try.prog 62 #[.pointer (some ⟨L.t, 0, none⟩), .int .u32 (va / 512), .int .u32 z] W fun e w' => e = .returned (.tuple #[]) ∧ RStep W w' base L vp ve T pl (putP (va / 512) z ps) l) := ⟨fun W k =>
                (tput_call W base L.t vp ve ps (va / 512) z k.nd k.tlb).mono fun e w' ⟨he, s⟩ => ⟨he, k.tlb_step s (fun p hp => by
                  rcases putP_mem _ _ _ _ hp with hp | rfl
                  · exact k.ents p hp
                  · exact ⟨by have := hv.1; have := hv.2; show 0 ≤ va / 512 ∧ va / 512 < 8388608; omega, hz⟩) (putP_nodup _ _ _ k.nd)⟩⟩
              rw [findF_good hm hE]
              by_cases hl : placeE z va + n ≤ l.length
              · rw [if_pos hl]
                cases keep
                · rw [Bool.false_and, findP_nk]
                  exact BW (rf_n_okn w base L vp ve T pl ps l va 0 n u wr hv h hm' TG _ EN z 0 rfl RG (MY _ h1) (BI _ h2) _ (PP z hz) (TY _ (placeE_r z va) hl))
                · cases pl
                  · rw [show (true && !false) = true from rfl, findP_put hm hE hin]
                    exact rf_n_okk w base L vp ve T false ps l va 0 n u wr hv h hm' rfl TG _ EN z 0 rfl RG (MY _ h1) (BI _ h2) PT _ (PP z hz) (TY _ (placeE_r z va) hl)
                  · rw [show (true && !true) = false from rfl, findP_nk]
                    exact BW (rf_n_okp w base L vp ve T true ps l va 0 n u wr hv h hm' rfl TG _ EN z 0 rfl RG (MY _ h1) (BI _ h2) _ (PP z hz) (TY _ (placeE_r z va) hl))
              · rw [if_neg hl]
                cases keep
                · rw [Bool.false_and, findP_nk]
                  exact BW (rf_n_busn w base L vp ve T pl ps l va 0 n u wr hv h hm' TG _ EN z 0 rfl RG (MY _ h1) (BI _ h2) _ (PP z hz) (TN _ (placeE_r z va) hl) _ (FA 1 0 (.inl rfl)))
                · cases pl
                  · rw [show (true && !false) = true from rfl, findP_put hm hE hin]
                    exact rf_n_busk w base L vp ve T false ps l va 0 n u wr hv h hm' rfl TG _ EN z 0 rfl RG (MY _ h1) (BI _ h2) PT _ (PP z hz) (TN _ (placeE_r z va) hl) _ (FA 1 0 (.inl rfl))
                  · rw [show (true && !true) = false from rfl, findP_nk]
                    exact BW (rf_n_busp w base L vp ve T true ps l va 0 n u wr hv h hm' rfl TG _ EN z 0 rfl RG (MY _ h1) (BI _ h2) _ (PP z hz) (TN _ (placeE_r z va) hl) _ (FA 1 0 (.inl rfl)))
        · have hmem : memF T l va wr = (0, flt 1 va 0 wr) := by unfold memF; rw [hoff, if_neg (by decide), if_neg hb]
          have hE := entryF_no (u := u) (hk.trans hmem) (by decide : (1 : Int) ≠ 0)
          have RG : Aside0 (∀ W, RmAt W base L vp ve T pl ps l → Calls Try.prog 50 #[.pointer (some ⟨L.r, 0, none⟩), .int .u32 (atE T va), .int .i64 4] W fun e w' => e = .returned (.tuple #[.int .u32 0, .int .i64 6]) ∧ W = w') := ⟨fun W k => rget_bus W base L.r L.b L.c l (atE T va) ha k.ram hb⟩
          rw [findP_no hE (by decide : (1 : Int) ≠ 0), findF_bad hm hE (by decide : (1 : Int) ≠ 0)]
          exact BW (rf_n_get w base L vp ve T pl ps l va 0 n u wr keep hv h hm' TG _ EN 0 6 (by decide) RG _ (FA 1 0 (.inl rfl)))
      · have hmem : memF T l va wr = (0, flt 2 va 1 wr) := by unfold memF; rw [hoff, if_pos rfl]
        have hE := entryF_no (u := u) (hk.trans hmem) (by decide : (2 : Int) ≠ 0)
        have EN : Aside0 (∀ W, RmAt W base L vp ve T pl ps l → Calls Try.prog 49 #[.pointer (some ⟨L.m, 0, none⟩), .int .u32 va] W fun e w' => e = .returned (.tuple #[.int .u32 (atE T va), .bool false]) ∧ W = w') := ⟨fun W k => by
          have := rentry_call W base L vp ve T pl ps l va hv k
          rwa [hoff] at this⟩
        rw [findP_no hE (by decide : (2 : Int) ≠ 0), findF_bad hm hE (by decide : (2 : Int) ≠ 0)]
        exact BW (rf_n_off w base L vp ve T pl ps l va 0 n u wr keep hv h hm' TG _ EN _ (FA 2 1 (.inr rfl)))
theorem rfind_nk (w : World) (base : Nat) (L : LocR) (vp ve : Value) (T : Tabs) (pl : Bool) (ps : List (Int × Int)) (l : List Int) (va : Int) (n : Nat) (u wr : Bool) (hv : R32 va) (h : RmAt w base L vp ve T pl ps l) :
    Calls Try.prog 24 #[.pointer (some ⟨L.m, 0, none⟩), .int .u32 va, .int .i64 n, .bool u, .bool wr, .bool false] w fun e w' => e = .returned (.tuple #[.int .u32 (findF T ps l va n u wr).1, fltV (findF T ps l va n u wr).2]) ∧ Below w.heap.size w w' := by
  have FA : ∀ k i, i = 0 ∨ i = 1 → Aside0 (∀ W, Calls Try.prog 59 #[.int .i64 k, .int .u32 va, .int .u32 i, .bool wr] W fun e w' => e = .returned (.agg #[.int .i64 k, .int .u32 va, .int .u32 (flt k va i wr).2.2]) ∧ Below W.heap.size W w') := fun k i hi => ⟨fun W => rfault_call W va wr k i hi⟩
  have TY : ∀ pa, R32 pa → pa + (n : Int) ≤ l.length → Aside0 (∀ W vp' ve' ps', RmAt W base L vp' ve' T pl ps' l → Calls Try.prog 55 #[.pointer (some ⟨L.r, 0, none⟩), .int .u32 pa, .int .i64 n] W fun e w' => e = .returned (.bool true) ∧ W = w') := fun pa hp hl => ⟨fun W vp' ve' ps' k => there_yes W base L.r L.b L.c l pa n hp k.ram (by omega) hl⟩
  have TN : ∀ pa, R32 pa → ¬ pa + (n : Int) ≤ l.length → Aside0 (∀ W vp' ve' ps', RmAt W base L vp' ve' T pl ps' l → Calls Try.prog 55 #[.pointer (some ⟨L.r, 0, none⟩), .int .u32 pa, .int .i64 n] W fun e w' => e = .returned (.bool false) ∧ W = w') := fun pa hp hl => ⟨fun W vp' ve' ps' k => there_no W base L.r L.b L.c l pa n hp k.ram (fun c => hl c.2)⟩
  by_cases hm : T.men = 0
  · by_cases hl : va + n ≤ l.length
    · have hF : findF T ps l va n u wr = (va, noF) := by unfold findF; rw [if_pos hm, if_pos hl]
      rw [hF]
      exact rf_m0_ok w base L vp ve T pl ps l va 0 n u wr false hv h hm (TY va hv hl)
    · have hF : findF T ps l va n u wr = (0, flt 1 va 0 wr) := by unfold findF; rw [if_pos hm, if_neg hl]
      rw [hF]
      exact rf_m0_bus w base L vp ve T pl ps l va 0 n u wr false hv h hm (TN va hv hl) _ (FA 1 0 (.inl rfl))
  · have hm' : (T.men == 0) = false := beq_eq_false_iff_ne.mpr hm
    have PP : ∀ x, R32 x → Aside0 (∀ W, Calls Try.prog 63 #[.int .u32 x, .int .u32 va] W fun e w' => e = .returned (.int .u32 (placeE x va)) ∧ W = w') := fun x hx => ⟨fun W => rplace_call W x va hx hv⟩
    by_cases hin : posP (va / 512) ps < ps.length
    · have hk : lookF T ps l va wr = (entP (va / 512) ps, noF) := by unfold lookF; rw [if_pos hin]
      have TG : Aside0 (∀ W, RmAt W base L vp ve T pl ps l → Calls Try.prog 58 #[.pointer (some ⟨L.t, 0, none⟩), .int .u32 (va / 512)] W fun e w' => e = .returned (.tuple #[.int .u32 (entP (va / 512) ps), .bool true]) ∧ W = w') := ⟨fun W k => by
        have := rget_call W base L.t vp ve ps (va / 512) k.tlb
        rwa [decide_eq_true hin] at this⟩
      have hx := rentP_r h (va / 512)
      generalize entP (va / 512) ps = x at *
      have MY : ∀ b, mayE x u wr = b → Aside0 (∀ W, Calls Try.prog 60 #[.int .u32 x, .bool u, .bool wr] W fun e w' => e = .returned (.bool b) ∧ W = w') := fun b hb => ⟨fun W => hb ▸ rmay_call W x u wr hx⟩
      have BI : ∀ b, isE x = b → Aside0 (∀ W, Calls Try.prog 61 #[.int .u32 x, .int .i64 31] W fun e w' => e = .returned (.bool b) ∧ W = w') := fun b hb => ⟨fun W => hb ▸ bit31 W x hx⟩
      cases h1 : mayE x u wr
      · rw [findF_bad hm (entryF_may hk h1) (by decide : (2 : Int) ≠ 0)]
        exact rf_y_may w base L vp ve T pl ps l va x n u wr false hv h hm' TG (MY _ h1) _ (FA 2 0 (.inl rfl))
      · cases h2 : isE x
        · rw [findF_bad hm (entryF_is hk h1 h2) (by decide : (3 : Int) ≠ 0)]
          exact rf_y_is w base L vp ve T pl ps l va x n u wr false hv h hm' TG (MY _ h1) (BI _ h2) _ (FA 3 0 (.inl rfl))
        · rw [findF_good hm (entryF_ok hk h1 h2)]
          by_cases hl : placeE x va + n ≤ l.length
          · rw [if_pos hl]
            exact rf_y_ok w base L vp ve T pl ps l va x n u wr false hv h hm' TG (MY _ h1) (BI _ h2) _ (PP x hx) (TY _ (placeE_r x va) hl)
          · rw [if_neg hl]
            exact rf_y_bus w base L vp ve T pl ps l va x n u wr false hv h hm' TG (MY _ h1) (BI _ h2) _ (PP x hx) (TN _ (placeE_r x va) hl) _ (FA 1 0 (.inl rfl))
    · have hk : lookF T ps l va wr = memF T l va wr := by unfold lookF; rw [if_neg hin]
      have TG : Aside0 (∀ W, RmAt W base L vp ve T pl ps l → Calls Try.prog 58 #[.pointer (some ⟨L.t, 0, none⟩), .int .u32 (va / 512)] W fun e w' => e = .returned (.tuple #[.int .u32 0, .bool false]) ∧ W = w') := ⟨fun W k => by
        have := rget_call W base L.t vp ve ps (va / 512) k.tlb
        unfold entP at this
        rwa [decide_eq_false hin, if_neg hin] at this⟩
      have ha := atE_r T va
      cases hoff : offE T va
      · have EN : Aside0 (∀ W, RmAt W base L vp ve T pl ps l → Calls Try.prog 49 #[.pointer (some ⟨L.m, 0, none⟩), .int .u32 va] W fun e w' => e = .returned (.tuple #[.int .u32 (atE T va), .bool true]) ∧ W = w') := ⟨fun W k => by
          have := rentry_call W base L vp ve T pl ps l va hv k
          rwa [hoff] at this⟩
        by_cases hb : atE T va + 4 ≤ l.length
        · have hmem : memF T l va wr = (leN ((l.drop (atE T va).toNat).take 4), noF) := by unfold memF; rw [hoff, if_neg (by decide), if_pos hb]
          have hz := lenum_r h.by_ (atE T va).toNat (by have := ha.1; omega)
          have RG : Aside0 (∀ W, RmAt W base L vp ve T pl ps l → Calls Try.prog 50 #[.pointer (some ⟨L.r, 0, none⟩), .int .u32 (atE T va), .int .i64 4] W fun e w' => e = .returned (.tuple #[.int .u32 (leN ((l.drop (atE T va).toNat).take 4)), .int .i64 0]) ∧ W = w') := ⟨fun W k => by
            have := rget_ok W base L.r L.b L.c l k.by_ (atE T va).toNat (by have := ha.2; have := ha.1; omega) k.ram (by have := ha.1; omega)
            rwa [Int.toNat_of_nonneg ha.1] at this⟩
          rw [hmem] at hk
          clear hmem
          generalize leN ((l.drop (atE T va).toNat).take 4) = z at *
          have MY : ∀ b, mayE z u wr = b → Aside0 (∀ W, Calls Try.prog 60 #[.int .u32 z, .bool u, .bool wr] W fun e w' => e = .returned (.bool b) ∧ W = w') := fun b hb => ⟨fun W => hb ▸ rmay_call W z u wr hz⟩
          have BI : ∀ b, isE z = b → Aside0 (∀ W, Calls Try.prog 61 #[.int .u32 z, .int .i64 31] W fun e w' => e = .returned (.bool b) ∧ W = w') := fun b hb => ⟨fun W => hb ▸ bit31 W z hz⟩
          cases h1 : mayE z u wr
          · have hE := entryF_may (u := u) hk h1
            rw [findF_bad hm hE (by decide : (2 : Int) ≠ 0)]
            exact rf_n_may w base L vp ve T pl ps l va 0 n u wr false hv h hm' TG _ EN z 0 rfl RG (MY _ h1) _ (FA 2 0 (.inl rfl))
          · cases h2 : isE z
            · have hE := entryF_is hk h1 h2
              rw [findF_bad hm hE (by decide : (3 : Int) ≠ 0)]
              exact rf_n_is w base L vp ve T pl ps l va 0 n u wr false hv h hm' TG _ EN z 0 rfl RG (MY _ h1) (BI _ h2) _ (FA 3 0 (.inl rfl))
            · have hE := entryF_ok hk h1 h2
              rw [findF_good hm hE]
              by_cases hl : placeE z va + n ≤ l.length
              · rw [if_pos hl]
                exact rf_n_okn w base L vp ve T pl ps l va 0 n u wr hv h hm' TG _ EN z 0 rfl RG (MY _ h1) (BI _ h2) _ (PP z hz) (TY _ (placeE_r z va) hl)
              · rw [if_neg hl]
                exact rf_n_busn w base L vp ve T pl ps l va 0 n u wr hv h hm' TG _ EN z 0 rfl RG (MY _ h1) (BI _ h2) _ (PP z hz) (TN _ (placeE_r z va) hl) _ (FA 1 0 (.inl rfl))
        · have hmem : memF T l va wr = (0, flt 1 va 0 wr) := by unfold memF; rw [hoff, if_neg (by decide), if_neg hb]
          have hE := entryF_no (u := u) (hk.trans hmem) (by decide : (1 : Int) ≠ 0)
          have RG : Aside0 (∀ W, RmAt W base L vp ve T pl ps l → Calls Try.prog 50 #[.pointer (some ⟨L.r, 0, none⟩), .int .u32 (atE T va), .int .i64 4] W fun e w' => e = .returned (.tuple #[.int .u32 0, .int .i64 6]) ∧ W = w') := ⟨fun W k => rget_bus W base L.r L.b L.c l (atE T va) ha k.ram hb⟩
          rw [findF_bad hm hE (by decide : (1 : Int) ≠ 0)]
          exact rf_n_get w base L vp ve T pl ps l va 0 n u wr false hv h hm' TG _ EN 0 6 (by decide) RG _ (FA 1 0 (.inl rfl))
      · have hmem : memF T l va wr = (0, flt 2 va 1 wr) := by unfold memF; rw [hoff, if_pos rfl]
        have hE := entryF_no (u := u) (hk.trans hmem) (by decide : (2 : Int) ≠ 0)
        have EN : Aside0 (∀ W, RmAt W base L vp ve T pl ps l → Calls Try.prog 49 #[.pointer (some ⟨L.m, 0, none⟩), .int .u32 va] W fun e w' => e = .returned (.tuple #[.int .u32 (atE T va), .bool false]) ∧ W = w') := ⟨fun W k => by
          have := rentry_call W base L vp ve T pl ps l va hv k
          rwa [hoff] at this⟩
        rw [findF_bad hm hE (by decide : (2 : Int) ≠ 0)]
        exact rf_n_off w base L vp ve T pl ps l va 0 n u wr false hv h hm' TG _ EN _ (FA 2 1 (.inr rfl))
end Go.Proofs.Ytiogbgjeimdgmaa.RefWalk
