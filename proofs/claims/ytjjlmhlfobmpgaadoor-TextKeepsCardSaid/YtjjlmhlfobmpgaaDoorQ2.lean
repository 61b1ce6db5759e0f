/-
Walks: text.same.
-/
import Derived.Test.YtjjlmhlfobmpgaaDoorQ
import Derived.Deep.Cut
namespace Go.Proofs.YtjjlmhlfobmpgaaDoor
open Go.RowKit

/-- slices.Equal. -/
theorem equal_any (k1 k2 : Value) (l1 l2 : List Int) (w : World) (h1 : KeepR w k1 l1) (h2 : KeepR w k2 l2) (hs1 : l1.length ≤ 1000001) (hs2 : l2.length ≤ 1000001) :
    Calls Tryd.prog 40 #[k1, k2] w fun e w' => e = .returned (.bool (l1 == l2)) ∧ ∃ q, w' = w.drewN q := by
  obtain ⟨a1, c1, rfl, h1⟩ := h1
  obtain ⟨a2, c2, rfl, h2⟩ := h2
  by_cases hl : l1.length = l2.length
  · cases l1 with
    | nil =>
      have : l2 = [] := List.eq_nil_of_length_eq_zero hl.symm
      subst this
      exact (Tryd.slices_Equal_int_empty a1 a2 c1 0 c2 w (by omega)).mono fun e w' ⟨he, hw⟩ => ⟨he, 0, hw⟩
    | cons x r =>
      obtain ⟨b1, o1, rfl, hc1⟩ := h1 (by simp)
      obtain ⟨b2, o2, rfl, hc2⟩ := h2 (by intro e; rw [e] at hl; simp at hl)
      have hg : ∀ (l : List Int) j, j < l.length → l[j]? = some (l.getD j 0) := fun l j hj => by simp [List.getD, List.getElem?_eq_getElem hj]
      have := Tryd.slices_Equal_int b1 o1 (x :: r).length c1 b2 o2 l2.length c2 (x :: r) l2 w (Nat.le_refl _) (Nat.le_refl _) (by omega) (by omega)
        (fun j hj => hc1 j _ (hg _ j hj)) (fun j hj => hc2 j _ (hg _ j hj))
      rw [List.take_length, List.take_length] at this
      exact this
  · have hne : (l1 == l2) = false := by
      rw [beq_eq_false_iff_ne]; intro e; exact hl (by rw [e])
    rw [hne]
    exact (Tryd.slices_Equal_int_lens a1 a2 _ c1 _ c2 w hl).mono fun e w' ⟨he, hw⟩ => ⟨he, 0, hw⟩

def SameP (r : Bool) (w : World) (e : Ending) (w' : World) : Prop := e = .returned (.bool r) ∧ Below w.heap.size w w'

/-- The facts of two boxes. -/
theorem two_boxes {x y : Tx.StepV} {k1 k2 : Value} (w : World) (hx : x.op.data.length = 32) (hy : y.op.data.length = 32) :
    let W := (w.alloc (.cells (stepCells x k1).toArray 41)).alloc (.cells (stepCells y k2).toArray 41)
    (W.rangeAt w.heap.size 0 (opCells x.op) ∧ W.cell? ⟨w.heap.size, 37, none⟩ = some (.int .i64 x.arm) ∧ W.cell? ⟨w.heap.size, 38, none⟩ = some (.bool x.crash) ∧ W.cell? ⟨w.heap.size, 39, none⟩ = some k1 ∧
      W.cell? ⟨w.heap.size, 40, none⟩ = some (.int .u64 (x.soft : Int)) ∧ W.cell? ⟨w.heap.size, 41, none⟩ = some (.int .i64 x.tear)) ∧
    (W.rangeAt (w.heap.size + 1) 0 (opCells y.op) ∧ W.cell? ⟨w.heap.size + 1, 37, none⟩ = some (.int .i64 y.arm) ∧ W.cell? ⟨w.heap.size + 1, 38, none⟩ = some (.bool y.crash) ∧ W.cell? ⟨w.heap.size + 1, 39, none⟩ = some k2 ∧
      W.cell? ⟨w.heap.size + 1, 40, none⟩ = some (.int .u64 (y.soft : Int)) ∧ W.cell? ⟨w.heap.size + 1, 41, none⟩ = some (.int .i64 y.tear)) := by
  intro W
  have h1 : W.heap[w.heap.size]? = some (.cells (stepCells x k1).toArray 41 (0, 0)) := by
    show ((w.alloc _).alloc _).heap[_]? = _
    rw [M.heap_alloc_if, if_neg (by simp), M.heap_alloc_if, if_pos rfl]
  have h2 : W.heap[(w.alloc (.cells (stepCells x k1).toArray 41)).heap.size]? = some (.cells (stepCells y k2).toArray 41 (0, 0)) := heap_alloc_new _ _
  have r2 := box_step (w := w.alloc (.cells (stepCells x k1).toArray 41)) hy h2
  simp only [show (w.alloc (.cells (stepCells x k1).toArray 41)).heap.size = w.heap.size + 1 by simp] at r2
  exact ⟨box_step hx h1, r2⟩

set_option maxHeartbeats 4000000 in
set_option maxRecDepth 100000 in
theorem same_1 (x y : Tx.StepV) (k1 k2 : Value) (w : World) (hx : x.op.data.length = 32) (hy : y.op.data.length = 32) (e1 : Tx.opEq x.op y.op = false) :
    Calls Tryd.prog 27 #[.agg (stepCells x k1).toArray, .agg (stepCells y k2).toArray] w (SameP (Tx.sameF x y) w) := by
  obtain ⟨⟨r1, a1, a2, a3, a4, a5⟩, ⟨r2, b1, b2, b3, b4, b5⟩⟩ := two_boxes (x := x) (y := y) (k1 := k1) (k2 := k2) w hx hy
  have HR1 := Lib.hid r1
  have HR2 := Lib.hid r2
  have HX := Lib.hid hx
  have HY := Lib.hid hy
  have heq := run_eq_op x.op y.op hx hy
  have HF : Hid (Tx.sameF x y = false) := Lib.hid (by
    simp [Tx.sameF, e1])
  simp only [e1] at heq
  have HEQ := Lib.hid heq
  clear r1 r2 hx hy e1 heq
  go_enter Tryd.func27, Tryd.ntmps27
  go_upto_region 1 with fail
  have hsize : ((w.alloc (.cells (stepCells x k1).toArray 41)).alloc (.cells (stepCells y k2).toArray 41)).heap.size = w.heap.size + 2 := by simp
  have HBW : Hid (Below w.heap.size w ((w.alloc (.cells (stepCells x k1).toArray 41)).alloc (.cells (stepCells y k2).toArray 41))) := Lib.hid (((Below.refl _ _).alloc (Nat.le_refl _) _).alloc (by simp) _)
  generalize (w.alloc (.cells (stepCells x k1).toArray 41)).alloc (.cells (stepCells y k2).toArray 41) = W at *
  clear hsize
  go_wp2_with (first
    | ((with_reducible show wpList _ _ _ ({ dst := _, op := Op.binOp .eql 35 _ _ _, type := _, pos := _, after := _, guard := _ } :: _) _ _); refine wpList_binop rfl .eql 35 35 _ _ rfl (.agg (opCells x.op).toArray) (.agg (opCells y.op).toArray) _ rfl rfl (run_eqGuard_agg _ _ _ _ _ _ _ guard35) (HEQ.out _) ?_)
    | ((with_reducible show wpList _ _ _ ({ dst := _, op := Op.load 35 _, type := _, pos := _, after := _, guard := _ } :: _) _ _); refine wpList_load_mid rfl 35 _ rfl w.heap.size 0 rfl (opCells x.op) _ HR1.out Tryd.underlying35 rfl (info35.trans (by rw [opCells_len HX.out])) ?_)
    | ((with_reducible show wpList _ _ _ ({ dst := _, op := Op.load 35 _, type := _, pos := _, after := _, guard := _ } :: _) _ _); refine wpList_load_mid rfl 35 _ rfl (w.heap.size + 1) 0 rfl (opCells y.op) _ HR2.out Tryd.underlying35 rfl (info35.trans (by rw [opCells_len HY.out])) ?_)
    | fail)
  go_ret
  exact ⟨by rw [HF.out]; rfl, HBW.out⟩

set_option maxHeartbeats 4000000 in
set_option maxRecDepth 100000 in
theorem same_2 (x y : Tx.StepV) (k1 k2 : Value) (w : World) (hx : x.op.data.length = 32) (hy : y.op.data.length = 32) (e1 : Tx.opEq x.op y.op = true) (e2 : (x.arm == y.arm) = false) :
    Calls Tryd.prog 27 #[.agg (stepCells x k1).toArray, .agg (stepCells y k2).toArray] w (SameP (Tx.sameF x y) w) := by
  obtain ⟨⟨r1, a1, a2, a3, a4, a5⟩, ⟨r2, b1, b2, b3, b4, b5⟩⟩ := two_boxes (x := x) (y := y) (k1 := k1) (k2 := k2) w hx hy
  have HR1 := Lib.hid r1
  have HR2 := Lib.hid r2
  have HX := Lib.hid hx
  have HY := Lib.hid hy
  have heq := run_eq_op x.op y.op hx hy
  have HF : Hid (Tx.sameF x y = false) := Lib.hid (by
    simp [Tx.sameF, e1, e2])
  simp only [e1] at heq
  have HEQ := Lib.hid heq
  clear r1 r2 hx hy e1 heq
  go_enter Tryd.func27, Tryd.ntmps27
  go_upto_region 1 with fail
  have hsize : ((w.alloc (.cells (stepCells x k1).toArray 41)).alloc (.cells (stepCells y k2).toArray 41)).heap.size = w.heap.size + 2 := by simp
  have HBW : Hid (Below w.heap.size w ((w.alloc (.cells (stepCells x k1).toArray 41)).alloc (.cells (stepCells y k2).toArray 41))) := Lib.hid (((Below.refl _ _).alloc (Nat.le_refl _) _).alloc (by simp) _)
  generalize (w.alloc (.cells (stepCells x k1).toArray 41)).alloc (.cells (stepCells y k2).toArray 41) = W at *
  clear hsize
  go_wp2_with (first
    | ((with_reducible show wpList _ _ _ ({ dst := _, op := Op.binOp .eql 35 _ _ _, type := _, pos := _, after := _, guard := _ } :: _) _ _); refine wpList_binop rfl .eql 35 35 _ _ rfl (.agg (opCells x.op).toArray) (.agg (opCells y.op).toArray) _ rfl rfl (run_eqGuard_agg _ _ _ _ _ _ _ guard35) (HEQ.out _) ?_)
    | ((with_reducible show wpList _ _ _ ({ dst := _, op := Op.load 35 _, type := _, pos := _, after := _, guard := _ } :: _) _ _); refine wpList_load_mid rfl 35 _ rfl w.heap.size 0 rfl (opCells x.op) _ HR1.out Tryd.underlying35 rfl (info35.trans (by rw [opCells_len HX.out])) ?_)
    | ((with_reducible show wpList _ _ _ ({ dst := _, op := Op.load 35 _, type := _, pos := _, after := _, guard := _ } :: _) _ _); refine wpList_load_mid rfl 35 _ rfl (w.heap.size + 1) 0 rfl (opCells y.op) _ HR2.out Tryd.underlying35 rfl (info35.trans (by rw [opCells_len HY.out])) ?_)
    | fail)
  go_ret
  exact ⟨by rw [HF.out]; rfl, HBW.out⟩

set_option maxHeartbeats 4000000 in
set_option maxRecDepth 100000 in
theorem same_3 (x y : Tx.StepV) (k1 k2 : Value) (w : World) (hx : x.op.data.length = 32) (hy : y.op.data.length = 32) (e1 : Tx.opEq x.op y.op = true) (e2 : (x.arm == y.arm) = true) (e3 : (x.crash == y.crash) = false) :
    Calls Tryd.prog 27 #[.agg (stepCells x k1).toArray, .agg (stepCells y k2).toArray] w (SameP (Tx.sameF x y) w) := by
  obtain ⟨⟨r1, a1, a2, a3, a4, a5⟩, ⟨r2, b1, b2, b3, b4, b5⟩⟩ := two_boxes (x := x) (y := y) (k1 := k1) (k2 := k2) w hx hy
  have HR1 := Lib.hid r1
  have HR2 := Lib.hid r2
  have HX := Lib.hid hx
  have HY := Lib.hid hy
  have heq := run_eq_op x.op y.op hx hy
  have HF : Hid (Tx.sameF x y = false) := Lib.hid (by
    simp [Tx.sameF, e1, e2, e3])
  simp only [e1] at heq
  have HEQ := Lib.hid heq
  clear r1 r2 hx hy e1 heq
  go_enter Tryd.func27, Tryd.ntmps27
  go_upto_region 1 with fail
  have hsize : ((w.alloc (.cells (stepCells x k1).toArray 41)).alloc (.cells (stepCells y k2).toArray 41)).heap.size = w.heap.size + 2 := by simp
  have HBW : Hid (Below w.heap.size w ((w.alloc (.cells (stepCells x k1).toArray 41)).alloc (.cells (stepCells y k2).toArray 41))) := Lib.hid (((Below.refl _ _).alloc (Nat.le_refl _) _).alloc (by simp) _)
  generalize (w.alloc (.cells (stepCells x k1).toArray 41)).alloc (.cells (stepCells y k2).toArray 41) = W at *
  clear hsize
  go_wp2_with (first
    | ((with_reducible show wpList _ _ _ ({ dst := _, op := Op.binOp .eql 35 _ _ _, type := _, pos := _, after := _, guard := _ } :: _) _ _); refine wpList_binop rfl .eql 35 35 _ _ rfl (.agg (opCells x.op).toArray) (.agg (opCells y.op).toArray) _ rfl rfl (run_eqGuard_agg _ _ _ _ _ _ _ guard35) (HEQ.out _) ?_)
    | ((with_reducible show wpList _ _ _ ({ dst := _, op := Op.load 35 _, type := _, pos := _, after := _, guard := _ } :: _) _ _); refine wpList_load_mid rfl 35 _ rfl w.heap.size 0 rfl (opCells x.op) _ HR1.out Tryd.underlying35 rfl (info35.trans (by rw [opCells_len HX.out])) ?_)
    | ((with_reducible show wpList _ _ _ ({ dst := _, op := Op.load 35 _, type := _, pos := _, after := _, guard := _ } :: _) _ _); refine wpList_load_mid rfl 35 _ rfl (w.heap.size + 1) 0 rfl (opCells y.op) _ HR2.out Tryd.underlying35 rfl (info35.trans (by rw [opCells_len HY.out])) ?_)
    | fail)
  go_ret
  exact ⟨by rw [HF.out]; rfl, HBW.out⟩

set_option maxHeartbeats 4000000 in
set_option maxRecDepth 100000 in
theorem same_4 (x y : Tx.StepV) (k1 k2 : Value) (w : World) (hx : x.op.data.length = 32) (hy : y.op.data.length = 32) (e1 : Tx.opEq x.op y.op = true) (e2 : (x.arm == y.arm) = true) (e3 : (x.crash == y.crash) = true) (e4 : ((x.soft : Int) == (y.soft : Int)) = false) :
    Calls Tryd.prog 27 #[.agg (stepCells x k1).toArray, .agg (stepCells y k2).toArray] w (SameP (Tx.sameF x y) w) := by
  obtain ⟨⟨r1, a1, a2, a3, a4, a5⟩, ⟨r2, b1, b2, b3, b4, b5⟩⟩ := two_boxes (x := x) (y := y) (k1 := k1) (k2 := k2) w hx hy
  have HR1 := Lib.hid r1
  have HR2 := Lib.hid r2
  have HX := Lib.hid hx
  have HY := Lib.hid hy
  have heq := run_eq_op x.op y.op hx hy
  have HF : Hid (Tx.sameF x y = false) := Lib.hid (by
    have e4' : (x.soft == y.soft) = false := by simp at e4 ⊢; omega
    simp [Tx.sameF, e1, e2, e3, e4'])
  simp only [e1] at heq
  have HEQ := Lib.hid heq
  clear r1 r2 hx hy e1 heq
  go_enter Tryd.func27, Tryd.ntmps27
  go_upto_region 1 with fail
  have hsize : ((w.alloc (.cells (stepCells x k1).toArray 41)).alloc (.cells (stepCells y k2).toArray 41)).heap.size = w.heap.size + 2 := by simp
  have HBW : Hid (Below w.heap.size w ((w.alloc (.cells (stepCells x k1).toArray 41)).alloc (.cells (stepCells y k2).toArray 41))) := Lib.hid (((Below.refl _ _).alloc (Nat.le_refl _) _).alloc (by simp) _)
  generalize (w.alloc (.cells (stepCells x k1).toArray 41)).alloc (.cells (stepCells y k2).toArray 41) = W at *
  clear hsize
  go_wp2_with (first
    | ((with_reducible show wpList _ _ _ ({ dst := _, op := Op.binOp .eql 35 _ _ _, type := _, pos := _, after := _, guard := _ } :: _) _ _); refine wpList_binop rfl .eql 35 35 _ _ rfl (.agg (opCells x.op).toArray) (.agg (opCells y.op).toArray) _ rfl rfl (run_eqGuard_agg _ _ _ _ _ _ _ guard35) (HEQ.out _) ?_)
    | ((with_reducible show wpList _ _ _ ({ dst := _, op := Op.load 35 _, type := _, pos := _, after := _, guard := _ } :: _) _ _); refine wpList_load_mid rfl 35 _ rfl w.heap.size 0 rfl (opCells x.op) _ HR1.out Tryd.underlying35 rfl (info35.trans (by rw [opCells_len HX.out])) ?_)
    | ((with_reducible show wpList _ _ _ ({ dst := _, op := Op.load 35 _, type := _, pos := _, after := _, guard := _ } :: _) _ _); refine wpList_load_mid rfl 35 _ rfl (w.heap.size + 1) 0 rfl (opCells y.op) _ HR2.out Tryd.underlying35 rfl (info35.trans (by rw [opCells_len HY.out])) ?_)
    | fail)
  go_ret
  exact ⟨by rw [HF.out]; rfl, HBW.out⟩

set_option maxHeartbeats 4000000 in
set_option maxRecDepth 100000 in
theorem same_5 (x y : Tx.StepV) (k1 k2 : Value) (w : World) (hx : x.op.data.length = 32) (hy : y.op.data.length = 32) (e1 : Tx.opEq x.op y.op = true) (e2 : (x.arm == y.arm) = true) (e3 : (x.crash == y.crash) = true) (e4 : ((x.soft : Int) == (y.soft : Int)) = true) (e5 : (x.tear == y.tear) = false) :
    Calls Tryd.prog 27 #[.agg (stepCells x k1).toArray, .agg (stepCells y k2).toArray] w (SameP (Tx.sameF x y) w) := by
  obtain ⟨⟨r1, a1, a2, a3, a4, a5⟩, ⟨r2, b1, b2, b3, b4, b5⟩⟩ := two_boxes (x := x) (y := y) (k1 := k1) (k2 := k2) w hx hy
  have HR1 := Lib.hid r1
  have HR2 := Lib.hid r2
  have HX := Lib.hid hx
  have HY := Lib.hid hy
  have heq := run_eq_op x.op y.op hx hy
  have HF : Hid (Tx.sameF x y = false) := Lib.hid (by
    have e4' : (x.soft == y.soft) = true := by simp at e4 ⊢; omega
    simp [Tx.sameF, e1, e2, e3, e4', e5])
  simp only [e1] at heq
  have HEQ := Lib.hid heq
  clear r1 r2 hx hy e1 heq
  go_enter Tryd.func27, Tryd.ntmps27
  go_upto_region 1 with fail
  have hsize : ((w.alloc (.cells (stepCells x k1).toArray 41)).alloc (.cells (stepCells y k2).toArray 41)).heap.size = w.heap.size + 2 := by simp
  have HBW : Hid (Below w.heap.size w ((w.alloc (.cells (stepCells x k1).toArray 41)).alloc (.cells (stepCells y k2).toArray 41))) := Lib.hid (((Below.refl _ _).alloc (Nat.le_refl _) _).alloc (by simp) _)
  generalize (w.alloc (.cells (stepCells x k1).toArray 41)).alloc (.cells (stepCells y k2).toArray 41) = W at *
  clear hsize
  go_wp2_with (first
    | ((with_reducible show wpList _ _ _ ({ dst := _, op := Op.binOp .eql 35 _ _ _, type := _, pos := _, after := _, guard := _ } :: _) _ _); refine wpList_binop rfl .eql 35 35 _ _ rfl (.agg (opCells x.op).toArray) (.agg (opCells y.op).toArray) _ rfl rfl (run_eqGuard_agg _ _ _ _ _ _ _ guard35) (HEQ.out _) ?_)
    | ((with_reducible show wpList _ _ _ ({ dst := _, op := Op.load 35 _, type := _, pos := _, after := _, guard := _ } :: _) _ _); refine wpList_load_mid rfl 35 _ rfl w.heap.size 0 rfl (opCells x.op) _ HR1.out Tryd.underlying35 rfl (info35.trans (by rw [opCells_len HX.out])) ?_)
    | ((with_reducible show wpList _ _ _ ({ dst := _, op := Op.load 35 _, type := _, pos := _, after := _, guard := _ } :: _) _ _); refine wpList_load_mid rfl 35 _ rfl (w.heap.size + 1) 0 rfl (opCells y.op) _ HR2.out Tryd.underlying35 rfl (info35.trans (by rw [opCells_len HY.out])) ?_)
    | fail)
  go_ret
  exact ⟨by rw [HF.out]; rfl, HBW.out⟩

set_option maxHeartbeats 4000000 in
set_option maxRecDepth 100000 in
theorem same_6 (x y : Tx.StepV) (k1 k2 : Value) (w : World) (hx : x.op.data.length = 32) (hy : y.op.data.length = 32) (e1 : Tx.opEq x.op y.op = true) (e2 : (x.arm == y.arm) = true) (e3 : (x.crash == y.crash) = true) (e4 : ((x.soft : Int) == (y.soft : Int)) = true) (e5 : (x.tear == y.tear) = true) (hk1 : KeepR w k1 x.keep) (hk2 : KeepR w k2 y.keep) (hs1 : x.keep.length ≤ 1000001) (hs2 : y.keep.length ≤ 1000001) :
    Calls Tryd.prog 27 #[.agg (stepCells x k1).toArray, .agg (stepCells y k2).toArray] w (SameP (Tx.sameF x y) w) := by
  obtain ⟨⟨r1, a1, a2, a3, a4, a5⟩, ⟨r2, b1, b2, b3, b4, b5⟩⟩ := two_boxes (x := x) (y := y) (k1 := k1) (k2 := k2) w hx hy
  have HR1 := Lib.hid r1
  have HR2 := Lib.hid r2
  have HX := Lib.hid hx
  have HY := Lib.hid hy
  have heq := run_eq_op x.op y.op hx hy
  have HF : Hid (Tx.sameF x y = (x.keep == y.keep)) := Lib.hid (by
    have e4' : (x.soft == y.soft) = true := by simp at e4 ⊢; omega
    simp [Tx.sameF, e1, e2, e3, e4', e5])
  have HE : Hid (Calls Tryd.prog 40 #[k1, k2] ((w.alloc (.cells (stepCells x k1).toArray 41)).alloc (.cells (stepCells y k2).toArray 41)) fun e w' => e = .returned (.bool (x.keep == y.keep)) ∧ ∃ q, w' = World.drewN ((w.alloc (.cells (stepCells x k1).toArray 41)).alloc (.cells (stepCells y k2).toArray 41)) q) :=
    Lib.hid (equal_any k1 k2 x.keep y.keep _ ((hk1.below (below_new _ _)).below (below_new _ _)) ((hk2.below (below_new _ _)).below (below_new _ _)) hs1 hs2)
  simp only [e1] at heq
  have HEQ := Lib.hid heq
  clear r1 r2 hx hy e1 heq hk1 hk2 hs1 hs2
  go_enter Tryd.func27, Tryd.ntmps27
  go_upto_region 1 with fail
  have hsize : ((w.alloc (.cells (stepCells x k1).toArray 41)).alloc (.cells (stepCells y k2).toArray 41)).heap.size = w.heap.size + 2 := by simp
  have HBW : Hid (Below w.heap.size w ((w.alloc (.cells (stepCells x k1).toArray 41)).alloc (.cells (stepCells y k2).toArray 41))) := Lib.hid (((Below.refl _ _).alloc (Nat.le_refl _) _).alloc (by simp) _)
  generalize (w.alloc (.cells (stepCells x k1).toArray 41)).alloc (.cells (stepCells y k2).toArray 41) = W at *
  clear hsize
  go_wp2_with (first
    | ((with_reducible show wpList _ _ _ ({ dst := _, op := Op.binOp .eql 35 _ _ _, type := _, pos := _, after := _, guard := _ } :: _) _ _); refine wpList_binop rfl .eql 35 35 _ _ rfl (.agg (opCells x.op).toArray) (.agg (opCells y.op).toArray) _ rfl rfl (run_eqGuard_agg _ _ _ _ _ _ _ guard35) (HEQ.out _) ?_)
    | ((with_reducible show wpList _ _ _ ({ dst := _, op := Op.load 35 _, type := _, pos := _, after := _, guard := _ } :: _) _ _); refine wpList_load_mid rfl 35 _ rfl w.heap.size 0 rfl (opCells x.op) _ HR1.out Tryd.underlying35 rfl (info35.trans (by rw [opCells_len HX.out])) ?_)
    | ((with_reducible show wpList _ _ _ ({ dst := _, op := Op.load 35 _, type := _, pos := _, after := _, guard := _ } :: _) _ _); refine wpList_load_mid rfl 35 _ rfl (w.heap.size + 1) 0 rfl (opCells y.op) _ HR2.out Tryd.underlying35 rfl (info35.trans (by rw [opCells_len HY.out])) ?_)
    | (go_at_call 40; refine HE.out.mono ?_; rintro e w1 ⟨rfl, q, rfl⟩))
  go_ret
  exact ⟨by rw [HF.out]; rfl, HBW.out.trans (below_drewN _ _ _)⟩

/-- Are two steps the same? -/
theorem same_any (x y : Tx.StepV) (k1 k2 : Value) (w : World) (hx : x.op.data.length = 32) (hy : y.op.data.length = 32) (hk1 : KeepR w k1 x.keep) (hk2 : KeepR w k2 y.keep) (hs1 : x.keep.length ≤ 1000001) (hs2 : y.keep.length ≤ 1000001) :
    Calls Tryd.prog 27 #[.agg (stepCells x k1).toArray, .agg (stepCells y k2).toArray] w (SameP (Tx.sameF x y) w) := by
  cases e1 : Tx.opEq x.op y.op with
  | false => exact same_1 x y k1 k2 w hx hy e1
  | true =>
    cases e2 : (x.arm == y.arm) with
    | false => exact same_2 x y k1 k2 w hx hy e1 e2
    | true =>
      cases e3 : (x.crash == y.crash) with
      | false => exact same_3 x y k1 k2 w hx hy e1 e2 e3
      | true =>
        cases e4 : ((x.soft : Int) == (y.soft : Int)) with
        | false => exact same_4 x y k1 k2 w hx hy e1 e2 e3 e4
        | true =>
          cases e5 : (x.tear == y.tear) with
          | false => exact same_5 x y k1 k2 w hx hy e1 e2 e3 e4 e5
          | true => exact same_6 x y k1 k2 w hx hy e1 e2 e3 e4 e5 hk1 hk2 hs1 hs2

end Go.Proofs.YtjjlmhlfobmpgaaDoor
