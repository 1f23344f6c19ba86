/- The MMU's place, walked: where the entry of an address's page lies. -/
import Derived.Test.YtiogbgjeimdgmaaMmuA
namespace Go.Proofs.Ytiogbgjeimdgmaa.MmuWalk
open Go.RowKit Go.Proofs.Ytiogbgjeimdgmaa.Aid Go.Proofs.YtiogbgjeimdgmaaW.PrintWords Go.Proofs.YtiogbgjeimdgmaaW.PrintLast Go.Proofs.YtiogbgjeimdgmaaW.PrintMore
open Go.Proofs.Ytiogbgjeimdgmaa.RamWalk (RamAt Bytes leN)
open Go.Proofs.Ytiogbgjeimdgmaa.TlbWalk (TlbAt Kept2 putP dropP posP entP)
attribute [local go_sem] max2_int min2_int max_two min_two max_three min_three max_four min_four   -- for this text's walks alone
set_option linter.unusedVariables false
set_option linter.unusedSimpArgs false
def pageE (va : Int) : Int := va / 512 % 2097152
def baseT (T : Tabs) (va : Int) : Int := if va / 2147483648 = 1 then T.sb else T.p0b
def lenT (T : Tabs) (va : Int) : Int := if va / 2147483648 = 1 then T.sl else T.p0l
def offE (T : Tabs) (va : Int) : Bool := decide (va / 1073741824 % 2 = 1) || decide (lenT T va ≤ pageE va)
def atE (T : Tabs) (va : Int) : Int := (baseT T va + 4 * pageE va) % 4294967296
def accV (va : Int) (u wr : Bool) : Value := .agg #[.int .u32 va, .bool u, .bool wr]
theorem box2 (w : World) (o1 o2 : Obj) : Below w.heap.size w ((w.alloc o1).alloc o2) ∧ ((w.alloc o1).alloc o2).heap[w.heap.size]? = some o1 ∧ ((w.alloc o1).alloc o2).heap[w.heap.size + 1]? = some o2 :=
  ⟨below_alloc (below_alloc (Below.refl _ _) _) _, heap_alloc2_old _ _ _, heap_alloc2_new _ _ _⟩
theorem below_setRow {B : Nat} {w W : World} (h : Below B w W) {g : Nat} (hg : B ≤ g) (cs : Array Value) : Below B w (W.setRow g cs) :=
  h.trans ⟨rfl, rfl, rfl, by simp [World.setRow], fun k hk => setRow_other _ g k _ (by omega)⟩
theorem row_then {W W' : World} {g : Nat} {o : Obj} (h : W.heap[g]? = some o) (b : Below W.heap.size W W') : W'.heap[g]? = some o := (b.block g (Array.getElem?_eq_some_iff.1 h).1).trans h
theorem infoAc : (Try.prog.info? 118).map (·.size) = some 3 := by kernel_rfl
set_option maxHeartbeats 1000000 in
theorem place_no1 (w : World) (base : Nat) (L : Loc) (v : Value) (T : Tabs) (ps : List (Int × Int)) (l : List Int) (va q pg j : Int) (u wr : Bool) (h : MmuAt w base L v T ps l)
    (e1 : Go.bits .and .u32 (va / 512) 2097151 = pg) (e2 : Go.bits .and .u32 (va / 1073741824) 1 = q) (hs : va / 2147483648 = 1) (hq : q = 1) (F : Aside0 (∀ W, Calls Try.prog 83 #[.agg #[.int .u32 va, .bool u, .bool wr], .int .i64 2, .int .u32 1] W fun e w' => e = .returned (.agg #[.int .i64 2, .int .u32 va, .int .u32 j]) ∧ Below W.heap.size W w')) :
    Calls Try.prog 87 #[.pointer (some ⟨L.m, 0, none⟩), .agg #[.int .u32 va, .bool u, .bool wr]] w fun e w' => e = .returned (.tuple #[.int .u32 0, .agg #[.int .i64 2, .int .u32 va, .int .u32 j]]) ∧ Below w.heap.size w w' := by
  have M := Aside0.mk h
  clear h
  go_enter Try.func87, Try.ntmps87
  go_wp2
  have BX := box2 w (.cells #[.int .u32 va, .bool u, .bool wr] 118 (0, 0)) (.cells #[.int .i64 0, .int .u32 0, .int .u32 0] 47 (0, 0))
  generalize (w.alloc (.cells #[.int .u32 va, .bool u, .bool wr] 118 (0, 0))).alloc (.cells #[.int .i64 0, .int .u32 0, .int .u32 0] 47 (0, 0)) = W at *
  have MW := M.out.then BX.1
  have c2 : W.cell? ⟨L.m, 2, none⟩ = some (.int .u32 T.p0b) := MW.cell 2
  have c3 : W.cell? ⟨L.m, 3, none⟩ = some (.int .u32 T.p0l) := MW.cell 3
  have c4 : W.cell? ⟨L.m, 4, none⟩ = some (.int .u32 T.sb) := MW.cell 4
  have c5 : W.cell? ⟨L.m, 5, none⟩ = some (.int .u32 T.sl) := MW.cell 5
  have d0 : W.cell? ⟨w.heap.size, 0, none⟩ = some (.int .u32 va) := cell_of_row _ _ 0 _ _ _ BX.2.1
  have d1 : W.cell? ⟨w.heap.size, 1, none⟩ = some (.bool u) := cell_of_row _ _ 1 _ _ _ BX.2.1
  have d2 : W.cell? ⟨w.heap.size, 2, none⟩ = some (.bool wr) := cell_of_row _ _ 2 _ _ _ BX.2.1
  have BX := Aside0.mk BX
  clear MW
  go_region
  go_wp2
  go_region
  go_wp2_with (first
    | (go_at_call 83; (with_reducible refine (F.out _).mono ?_); rintro e w1 ⟨rfl, hb⟩; have B1 := Aside0.mk hb; have Z1 := Aside0.mk (row_then (W := W) BX.out.2.2 (show Below W.heap.size W w1 from by first | exact (((Below.refl W.heap.size W).drew).drew).trans hb | exact ((Below.refl W.heap.size W).drew).trans hb)); have BB := Aside0.mk (show Below w.heap.size w w1 from below_step BX.out.1 (by first | exact (((Below.refl W.heap.size W).drew).drew).trans hb | exact ((Below.refl W.heap.size W).drew).trans hb)); clear hb)
    | (refine wpList_store_row rfl 47 (.tmp 5) (.tmp 48) rfl (w.heap.size + 1) #[.int .i64 2, .int .u32 va, .int .u32 j] rfl rfl _ _ Z1.out infoF rfl (by kernel_rfl) ?_))
  refine bodyPost_ret (results_tc rfl _ _ (w.heap.size + 1) 47 #[.int .i64 2, .int .u32 va, .int .u32 j] (0, 0) _ rfl (setRow_heap _ _ _ _ 47 _ Z1.out) Try.underlying47 rfl infoF) rfl ⟨rfl, below_setRow BB.out (by omega) _⟩
set_option maxHeartbeats 1000000 in
theorem place_no2 (w : World) (base : Nat) (L : Loc) (v : Value) (T : Tabs) (ps : List (Int × Int)) (l : List Int) (va q pg j : Int) (u wr : Bool) (h : MmuAt w base L v T ps l)
    (e1 : Go.bits .and .u32 (va / 512) 2097151 = pg) (e2 : Go.bits .and .u32 (va / 1073741824) 1 = q) (hs : va / 2147483648 = 1) (hq : (q == 1) = false) (hn : T.sl ≤ pg) (F : Aside0 (∀ W, Calls Try.prog 83 #[.agg #[.int .u32 va, .bool u, .bool wr], .int .i64 2, .int .u32 1] W fun e w' => e = .returned (.agg #[.int .i64 2, .int .u32 va, .int .u32 j]) ∧ Below W.heap.size W w')) :
    Calls Try.prog 87 #[.pointer (some ⟨L.m, 0, none⟩), .agg #[.int .u32 va, .bool u, .bool wr]] w fun e w' => e = .returned (.tuple #[.int .u32 0, .agg #[.int .i64 2, .int .u32 va, .int .u32 j]]) ∧ Below w.heap.size w w' := by
  have M := Aside0.mk h
  clear h
  go_enter Try.func87, Try.ntmps87
  go_wp2
  have BX := box2 w (.cells #[.int .u32 va, .bool u, .bool wr] 118 (0, 0)) (.cells #[.int .i64 0, .int .u32 0, .int .u32 0] 47 (0, 0))
  generalize (w.alloc (.cells #[.int .u32 va, .bool u, .bool wr] 118 (0, 0))).alloc (.cells #[.int .i64 0, .int .u32 0, .int .u32 0] 47 (0, 0)) = W at *
  have MW := M.out.then BX.1
  have c2 : W.cell? ⟨L.m, 2, none⟩ = some (.int .u32 T.p0b) := MW.cell 2
  have c3 : W.cell? ⟨L.m, 3, none⟩ = some (.int .u32 T.p0l) := MW.cell 3
  have c4 : W.cell? ⟨L.m, 4, none⟩ = some (.int .u32 T.sb) := MW.cell 4
  have c5 : W.cell? ⟨L.m, 5, none⟩ = some (.int .u32 T.sl) := MW.cell 5
  have d0 : W.cell? ⟨w.heap.size, 0, none⟩ = some (.int .u32 va) := cell_of_row _ _ 0 _ _ _ BX.2.1
  have d1 : W.cell? ⟨w.heap.size, 1, none⟩ = some (.bool u) := cell_of_row _ _ 1 _ _ _ BX.2.1
  have d2 : W.cell? ⟨w.heap.size, 2, none⟩ = some (.bool wr) := cell_of_row _ _ 2 _ _ _ BX.2.1
  have BX := Aside0.mk BX
  clear MW
  go_region
  go_wp2
  go_region
  go_wp2_with (first
    | (go_at_call 83; (with_reducible refine (F.out _).mono ?_); rintro e w1 ⟨rfl, hb⟩; have B1 := Aside0.mk hb; have Z1 := Aside0.mk (row_then (W := W) BX.out.2.2 (show Below W.heap.size W w1 from by first | exact (((Below.refl W.heap.size W).drew).drew).trans hb | exact ((Below.refl W.heap.size W).drew).trans hb)); have BB := Aside0.mk (show Below w.heap.size w w1 from below_step BX.out.1 (by first | exact (((Below.refl W.heap.size W).drew).drew).trans hb | exact ((Below.refl W.heap.size W).drew).trans hb)); clear hb)
    | (refine wpList_store_row rfl 47 (.tmp 5) (.tmp 48) rfl (w.heap.size + 1) #[.int .i64 2, .int .u32 va, .int .u32 j] rfl rfl _ _ Z1.out infoF rfl (by kernel_rfl) ?_))
  refine bodyPost_ret (results_tc rfl _ _ (w.heap.size + 1) 47 #[.int .i64 2, .int .u32 va, .int .u32 j] (0, 0) _ rfl (setRow_heap _ _ _ _ 47 _ Z1.out) Try.underlying47 rfl infoF) rfl ⟨rfl, below_setRow BB.out (by omega) _⟩
set_option maxHeartbeats 1000000 in
theorem place_no3 (w : World) (base : Nat) (L : Loc) (v : Value) (T : Tabs) (ps : List (Int × Int)) (l : List Int) (va q pg j : Int) (u wr : Bool) (h : MmuAt w base L v T ps l)
    (e1 : Go.bits .and .u32 (va / 512) 2097151 = pg) (e2 : Go.bits .and .u32 (va / 1073741824) 1 = q) (hs : (va / 2147483648 == 1) = false) (hq : q = 1) (F : Aside0 (∀ W, Calls Try.prog 83 #[.agg #[.int .u32 va, .bool u, .bool wr], .int .i64 2, .int .u32 1] W fun e w' => e = .returned (.agg #[.int .i64 2, .int .u32 va, .int .u32 j]) ∧ Below W.heap.size W w')) :
    Calls Try.prog 87 #[.pointer (some ⟨L.m, 0, none⟩), .agg #[.int .u32 va, .bool u, .bool wr]] w fun e w' => e = .returned (.tuple #[.int .u32 0, .agg #[.int .i64 2, .int .u32 va, .int .u32 j]]) ∧ Below w.heap.size w w' := by
  have M := Aside0.mk h
  clear h
  go_enter Try.func87, Try.ntmps87
  go_wp2
  have BX := box2 w (.cells #[.int .u32 va, .bool u, .bool wr] 118 (0, 0)) (.cells #[.int .i64 0, .int .u32 0, .int .u32 0] 47 (0, 0))
  generalize (w.alloc (.cells #[.int .u32 va, .bool u, .bool wr] 118 (0, 0))).alloc (.cells #[.int .i64 0, .int .u32 0, .int .u32 0] 47 (0, 0)) = W at *
  have MW := M.out.then BX.1
  have c2 : W.cell? ⟨L.m, 2, none⟩ = some (.int .u32 T.p0b) := MW.cell 2
  have c3 : W.cell? ⟨L.m, 3, none⟩ = some (.int .u32 T.p0l) := MW.cell 3
  have c4 : W.cell? ⟨L.m, 4, none⟩ = some (.int .u32 T.sb) := MW.cell 4
  have c5 : W.cell? ⟨L.m, 5, none⟩ = some (.int .u32 T.sl) := MW.cell 5
  have d0 : W.cell? ⟨w.heap.size, 0, none⟩ = some (.int .u32 va) := cell_of_row _ _ 0 _ _ _ BX.2.1
  have d1 : W.cell? ⟨w.heap.size, 1, none⟩ = some (.bool u) := cell_of_row _ _ 1 _ _ _ BX.2.1
  have d2 : W.cell? ⟨w.heap.size, 2, none⟩ = some (.bool wr) := cell_of_row _ _ 2 _ _ _ BX.2.1
  have BX := Aside0.mk BX
  clear MW
  go_region
  go_wp2_with (first
    | (go_at_call 83; (with_reducible refine (F.out _).mono ?_); rintro e w1 ⟨rfl, hb⟩; have B1 := Aside0.mk hb; have Z1 := Aside0.mk (row_then (W := W) BX.out.2.2 (show Below W.heap.size W w1 from by first | exact (((Below.refl W.heap.size W).drew).drew).trans hb | exact ((Below.refl W.heap.size W).drew).trans hb)); have BB := Aside0.mk (show Below w.heap.size w w1 from below_step BX.out.1 (by first | exact (((Below.refl W.heap.size W).drew).drew).trans hb | exact ((Below.refl W.heap.size W).drew).trans hb)); clear hb)
    | (refine wpList_store_row rfl 47 (.tmp 5) (.tmp 48) rfl (w.heap.size + 1) #[.int .i64 2, .int .u32 va, .int .u32 j] rfl rfl _ _ Z1.out infoF rfl (by kernel_rfl) ?_))
  refine bodyPost_ret (results_tc rfl _ _ (w.heap.size + 1) 47 #[.int .i64 2, .int .u32 va, .int .u32 j] (0, 0) _ rfl (setRow_heap _ _ _ _ 47 _ Z1.out) Try.underlying47 rfl infoF) rfl ⟨rfl, below_setRow BB.out (by omega) _⟩
set_option maxHeartbeats 1000000 in
theorem place_no4 (w : World) (base : Nat) (L : Loc) (v : Value) (T : Tabs) (ps : List (Int × Int)) (l : List Int) (va q pg j : Int) (u wr : Bool) (h : MmuAt w base L v T ps l)
    (e1 : Go.bits .and .u32 (va / 512) 2097151 = pg) (e2 : Go.bits .and .u32 (va / 1073741824) 1 = q) (hs : (va / 2147483648 == 1) = false) (hq : (q == 1) = false) (hn : T.p0l ≤ pg) (F : Aside0 (∀ W, Calls Try.prog 83 #[.agg #[.int .u32 va, .bool u, .bool wr], .int .i64 2, .int .u32 1] W fun e w' => e = .returned (.agg #[.int .i64 2, .int .u32 va, .int .u32 j]) ∧ Below W.heap.size W w')) :
    Calls Try.prog 87 #[.pointer (some ⟨L.m, 0, none⟩), .agg #[.int .u32 va, .bool u, .bool wr]] w fun e w' => e = .returned (.tuple #[.int .u32 0, .agg #[.int .i64 2, .int .u32 va, .int .u32 j]]) ∧ Below w.heap.size w w' := by
  have M := Aside0.mk h
  clear h
  go_enter Try.func87, Try.ntmps87
  go_wp2
  have BX := box2 w (.cells #[.int .u32 va, .bool u, .bool wr] 118 (0, 0)) (.cells #[.int .i64 0, .int .u32 0, .int .u32 0] 47 (0, 0))
  generalize (w.alloc (.cells #[.int .u32 va, .bool u, .bool wr] 118 (0, 0))).alloc (.cells #[.int .i64 0, .int .u32 0, .int .u32 0] 47 (0, 0)) = W at *
  have MW := M.out.then BX.1
  have c2 : W.cell? ⟨L.m, 2, none⟩ = some (.int .u32 T.p0b) := MW.cell 2
  have c3 : W.cell? ⟨L.m, 3, none⟩ = some (.int .u32 T.p0l) := MW.cell 3
  have c4 : W.cell? ⟨L.m, 4, none⟩ = some (.int .u32 T.sb) := MW.cell 4
  have c5 : W.cell? ⟨L.m, 5, none⟩ = some (.int .u32 T.sl) := MW.cell 5
  have d0 : W.cell? ⟨w.heap.size, 0, none⟩ = some (.int .u32 va) := cell_of_row _ _ 0 _ _ _ BX.2.1
  have d1 : W.cell? ⟨w.heap.size, 1, none⟩ = some (.bool u) := cell_of_row _ _ 1 _ _ _ BX.2.1
  have d2 : W.cell? ⟨w.heap.size, 2, none⟩ = some (.bool wr) := cell_of_row _ _ 2 _ _ _ BX.2.1
  have BX := Aside0.mk BX
  clear MW
  go_region
  go_wp2_with (first
    | (go_at_call 83; (with_reducible refine (F.out _).mono ?_); rintro e w1 ⟨rfl, hb⟩; have B1 := Aside0.mk hb; have Z1 := Aside0.mk (row_then (W := W) BX.out.2.2 (show Below W.heap.size W w1 from by first | exact (((Below.refl W.heap.size W).drew).drew).trans hb | exact ((Below.refl W.heap.size W).drew).trans hb)); have BB := Aside0.mk (show Below w.heap.size w w1 from below_step BX.out.1 (by first | exact (((Below.refl W.heap.size W).drew).drew).trans hb | exact ((Below.refl W.heap.size W).drew).trans hb)); clear hb)
    | (refine wpList_store_row rfl 47 (.tmp 5) (.tmp 48) rfl (w.heap.size + 1) #[.int .i64 2, .int .u32 va, .int .u32 j] rfl rfl _ _ Z1.out infoF rfl (by kernel_rfl) ?_))
  refine bodyPost_ret (results_tc rfl _ _ (w.heap.size + 1) 47 #[.int .i64 2, .int .u32 va, .int .u32 j] (0, 0) _ rfl (setRow_heap _ _ _ _ 47 _ Z1.out) Try.underlying47 rfl infoF) rfl ⟨rfl, below_setRow BB.out (by omega) _⟩
set_option maxHeartbeats 1000000 in
theorem place_yes1 (w : World) (base : Nat) (L : Loc) (v : Value) (T : Tabs) (ps : List (Int × Int)) (l : List Int) (va q pg : Int) (u wr : Bool) (h : MmuAt w base L v T ps l)
    (e1 : Go.bits .and .u32 (va / 512) 2097151 = pg) (e2 : Go.bits .and .u32 (va / 1073741824) 1 = q) (hs : va / 2147483648 = 1) (hq : (q == 1) = false) (hn : ¬ T.sl ≤ pg) :
    Calls Try.prog 87 #[.pointer (some ⟨L.m, 0, none⟩), .agg #[.int .u32 va, .bool u, .bool wr]] w fun e w' => e = .returned (.tuple #[.int .u32 ((T.sb + 4 * pg % 4294967296) % 4294967296), .agg #[.int .i64 0, .int .u32 0, .int .u32 0]]) ∧ Below w.heap.size w w' := by
  have M := Aside0.mk h
  clear h
  go_enter Try.func87, Try.ntmps87
  go_wp2
  have BX := box2 w (.cells #[.int .u32 va, .bool u, .bool wr] 118 (0, 0)) (.cells #[.int .i64 0, .int .u32 0, .int .u32 0] 47 (0, 0))
  generalize (w.alloc (.cells #[.int .u32 va, .bool u, .bool wr] 118 (0, 0))).alloc (.cells #[.int .i64 0, .int .u32 0, .int .u32 0] 47 (0, 0)) = W at *
  have MW := M.out.then BX.1
  have c2 : W.cell? ⟨L.m, 2, none⟩ = some (.int .u32 T.p0b) := MW.cell 2
  have c3 : W.cell? ⟨L.m, 3, none⟩ = some (.int .u32 T.p0l) := MW.cell 3
  have c4 : W.cell? ⟨L.m, 4, none⟩ = some (.int .u32 T.sb) := MW.cell 4
  have c5 : W.cell? ⟨L.m, 5, none⟩ = some (.int .u32 T.sl) := MW.cell 5
  have d0 : W.cell? ⟨w.heap.size, 0, none⟩ = some (.int .u32 va) := cell_of_row _ _ 0 _ _ _ BX.2.1
  have d1 : W.cell? ⟨w.heap.size, 1, none⟩ = some (.bool u) := cell_of_row _ _ 1 _ _ _ BX.2.1
  have d2 : W.cell? ⟨w.heap.size, 2, none⟩ = some (.bool wr) := cell_of_row _ _ 2 _ _ _ BX.2.1
  have BX := Aside0.mk BX
  clear MW
  go_region
  go_wp2
  go_region
  go_wp2_with (first
    | (refine wpList_store_row rfl 47 (.tmp 5) (.tmp 53) rfl (w.heap.size + 1) #[.int .i64 0, .int .u32 0, .int .u32 0] rfl rfl _ _ (show (W.drew.drew).heap[w.heap.size + 1]? = some (.cells #[.int .i64 0, .int .u32 0, .int .u32 0] 47 (0, 0)) from BX.out.2.2) infoF rfl (by kernel_rfl) ?_))
  refine bodyPost_ret (results_tc rfl _ _ (w.heap.size + 1) 47 #[.int .i64 0, .int .u32 0, .int .u32 0] (0, 0) _ rfl (setRow_heap _ _ _ _ 47 _ (show (W.drew.drew).heap[w.heap.size + 1]? = some (.cells #[.int .i64 0, .int .u32 0, .int .u32 0] 47 (0, 0)) from BX.out.2.2)) Try.underlying47 rfl infoF) rfl ⟨rfl, below_setRow ((BX.out.1.drew).drew) (by omega) _⟩
set_option maxHeartbeats 1000000 in
theorem place_yes2 (w : World) (base : Nat) (L : Loc) (v : Value) (T : Tabs) (ps : List (Int × Int)) (l : List Int) (va q pg : Int) (u wr : Bool) (h : MmuAt w base L v T ps l)
    (e1 : Go.bits .and .u32 (va / 512) 2097151 = pg) (e2 : Go.bits .and .u32 (va / 1073741824) 1 = q) (hs : (va / 2147483648 == 1) = false) (hq : (q == 1) = false) (hn : ¬ T.p0l ≤ pg) :
    Calls Try.prog 87 #[.pointer (some ⟨L.m, 0, none⟩), .agg #[.int .u32 va, .bool u, .bool wr]] w fun e w' => e = .returned (.tuple #[.int .u32 ((T.p0b + 4 * pg % 4294967296) % 4294967296), .agg #[.int .i64 0, .int .u32 0, .int .u32 0]]) ∧ Below w.heap.size w w' := by
  have M := Aside0.mk h
  clear h
  go_enter Try.func87, Try.ntmps87
  go_wp2
  have BX := box2 w (.cells #[.int .u32 va, .bool u, .bool wr] 118 (0, 0)) (.cells #[.int .i64 0, .int .u32 0, .int .u32 0] 47 (0, 0))
  generalize (w.alloc (.cells #[.int .u32 va, .bool u, .bool wr] 118 (0, 0))).alloc (.cells #[.int .i64 0, .int .u32 0, .int .u32 0] 47 (0, 0)) = W at *
  have MW := M.out.then BX.1
  have c2 : W.cell? ⟨L.m, 2, none⟩ = some (.int .u32 T.p0b) := MW.cell 2
  have c3 : W.cell? ⟨L.m, 3, none⟩ = some (.int .u32 T.p0l) := MW.cell 3
  have c4 : W.cell? ⟨L.m, 4, none⟩ = some (.int .u32 T.sb) := MW.cell 4
  have c5 : W.cell? ⟨L.m, 5, none⟩ = some (.int .u32 T.sl) := MW.cell 5
  have d0 : W.cell? ⟨w.heap.size, 0, none⟩ = some (.int .u32 va) := cell_of_row _ _ 0 _ _ _ BX.2.1
  have d1 : W.cell? ⟨w.heap.size, 1, none⟩ = some (.bool u) := cell_of_row _ _ 1 _ _ _ BX.2.1
  have d2 : W.cell? ⟨w.heap.size, 2, none⟩ = some (.bool wr) := cell_of_row _ _ 2 _ _ _ BX.2.1
  have BX := Aside0.mk BX
  clear MW
  go_region
  go_wp2_with (first
    | (refine wpList_store_row rfl 47 (.tmp 5) (.tmp 53) rfl (w.heap.size + 1) #[.int .i64 0, .int .u32 0, .int .u32 0] rfl rfl _ _ (show (W.drew).heap[w.heap.size + 1]? = some (.cells #[.int .i64 0, .int .u32 0, .int .u32 0] 47 (0, 0)) from BX.out.2.2) infoF rfl (by kernel_rfl) ?_))
  refine bodyPost_ret (results_tc rfl _ _ (w.heap.size + 1) 47 #[.int .i64 0, .int .u32 0, .int .u32 0] (0, 0) _ rfl (setRow_heap _ _ _ _ 47 _ (show (W.drew).heap[w.heap.size + 1]? = some (.cells #[.int .i64 0, .int .u32 0, .int .u32 0] 47 (0, 0)) from BX.out.2.2)) Try.underlying47 rfl infoF) rfl ⟨rfl, below_setRow (BX.out.1.drew) (by omega) _⟩
theorem ok_add (T : Tabs) (va b : Int) : (b + 4 * pageE va % 4294967296) % 4294967296 = (b + 4 * pageE va) % 4294967296 := by omega
theorem place_call (w : World) (base : Nat) (L : Loc) (v : Value) (T : Tabs) (ps : List (Int × Int)) (l : List Int) (va : Int) (u wr : Bool) (hv : R32 va) (h : MmuAt w base L v T ps l) :
    Calls Try.prog 87 #[.pointer (some ⟨L.m, 0, none⟩), accV va u wr] w fun e w' => e = .returned (.tuple #[.int .u32 (if offE T va = true then 0 else atE T va), fltV (if offE T va = true then flt 2 va 1 wr else noF)]) ∧ Below w.heap.size w w' := by
  have e1 : Go.bits .and .u32 (va / 512) 2097151 = pageE va := and_mask 21 (by decide) (va / 512) _ (by unfold R32 at *; omega) rfl
  have e2 : Go.bits .and .u32 (va / 1073741824) 1 = va / 1073741824 % 2 := and_mask 1 (by decide) (va / 1073741824) _ (by unfold R32 at *; omega) rfl
  have F := Aside0.mk (fun W => fault_call W va u wr 2 1 (.inr rfl))
  unfold offE lenT atE baseT accV
  by_cases hs : va / 2147483648 = 1
  · rw [if_pos hs, if_pos hs]
    by_cases hq : va / 1073741824 % 2 = 1
    · rw [if_pos (by rw [decide_eq_true hq]; rfl), if_pos (by rw [decide_eq_true hq]; rfl)]
      exact place_no1 w base L v T ps l va _ _ _ u wr h e1 e2 hs hq F
    · by_cases hn : T.sl ≤ pageE va
      · rw [if_pos (by rw [decide_eq_true hn, Bool.or_true]), if_pos (by rw [decide_eq_true hn, Bool.or_true])]
        exact place_no2 w base L v T ps l va _ _ _ u wr h e1 e2 hs (beq_eq_false_iff_ne.mpr hq) hn F
      · rw [if_neg (by rw [decide_eq_false hn, decide_eq_false hq]; decide), if_neg (by rw [decide_eq_false hn, decide_eq_false hq]; decide), ← ok_add T]
        exact place_yes1 w base L v T ps l va _ _ u wr h e1 e2 hs (beq_eq_false_iff_ne.mpr hq) hn
  · have hs' : (va / 2147483648 == 1) = false := beq_eq_false_iff_ne.mpr hs
    rw [if_neg hs, if_neg hs]
    by_cases hq : va / 1073741824 % 2 = 1
    · rw [if_pos (by rw [decide_eq_true hq]; rfl), if_pos (by rw [decide_eq_true hq]; rfl)]
      exact place_no3 w base L v T ps l va _ _ _ u wr h e1 e2 hs' hq F
    · by_cases hn : T.p0l ≤ pageE va
      · rw [if_pos (by rw [decide_eq_true hn, Bool.or_true]), if_pos (by rw [decide_eq_true hn, Bool.or_true])]
        exact place_no4 w base L v T ps l va _ _ _ u wr h e1 e2 hs' (beq_eq_false_iff_ne.mpr hq) hn F
      · rw [if_neg (by rw [decide_eq_false hn, decide_eq_false hq]; decide), if_neg (by rw [decide_eq_false hn, decide_eq_false hq]; decide), ← ok_add T]
        exact place_yes2 w base L v T ps l va _ _ u wr h e1 e2 hs' (beq_eq_false_iff_ne.mpr hq) hn
end Go.Proofs.Ytiogbgjeimdgmaa.MmuWalk
