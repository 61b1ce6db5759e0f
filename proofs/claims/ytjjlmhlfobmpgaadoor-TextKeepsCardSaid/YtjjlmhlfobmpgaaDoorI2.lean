/-
Walks: text.line.
-/
import Derived.Test.YtjjlmhlfobmpgaaDoorI
namespace Go.Proofs.YtjjlmhlfobmpgaaDoor
open Go.RowKit

def LineP (l : List Tx.Bytes) (w : World) (e : Ending) (w' : World) : Prop := e = .returned (.string ⟨(Lib.join l [32] ++ [10]).toArray⟩) ∧ Below w.heap.size w w'

/-- Join over any cells. -/
theorem join_cells (g cap : Nat) (l : List Tx.Bytes) (w : World) (hc : ∀ (j : Nat) (x : Tx.Bytes), l[j]? = some x → w.cell? ⟨g, j, none⟩ = some (str x)) (_h0 : l ≠ []) (hg : g < w.heap.size) (hn : l.length ≤ 1000) (hcap : l.length ≤ cap) (hlen : (Lib.join l [32]).length ≤ 1000000) :
    Calls Tryd.prog 39 #[.slice (some ⟨g, 0, none⟩) l.length cap, .string ⟨#[32]⟩] w fun e w' => e = .returned (.string ⟨(Lib.join l [32]).toArray⟩) ∧ Below w.heap.size w w' := by
  have e : (l.map fun l => (⟨l.toArray⟩ : ByteArray)).map (fun x => x.data.toList) = l := by
    rw [List.map_map]
    conv => rhs; rw [← List.map_id l]
    exact List.map_congr_left fun a _ => rfl
  have h := Tryd.strings_Join g 0 cap (l.map fun l => (⟨l.toArray⟩ : ByteArray)) ⟨#[32]⟩ w (fun j y hj => by
    rw [List.getElem?_map] at hj
    cases hq : l[j]? with
    | none => simp [hq] at hj
    | some z => simp [hq] at hj; rw [Nat.zero_add, hc j z hq, ← hj]; rfl) hg (by simp; omega) (by simpa using hcap) (by rw [e]; exact Nat.le_trans hlen (by omega))
  rw [e] at h
  simpa using h

theorem str_add (a b : Tx.Bytes) : (⟨(a ++ b).toArray⟩ : ByteArray) = ⟨a.toArray⟩ ++ ⟨b.toArray⟩ := by
  apply ByteArray.ext
  simp

/-- The facts of the step in its box. -/
theorem box_step {x : Tx.StepV} {kv : Value} {w wx : World} (h : x.op.data.length = 32) (hB : wx.heap[w.heap.size]? = some (.cells (stepCells x kv).toArray 41 (0, 0))) :
    wx.rangeAt w.heap.size 0 (opCells x.op) ∧ wx.cell? ⟨w.heap.size, 37, none⟩ = some (.int .i64 x.arm) ∧ wx.cell? ⟨w.heap.size, 38, none⟩ = some (.bool x.crash) ∧ wx.cell? ⟨w.heap.size, 39, none⟩ = some kv ∧
    wx.cell? ⟨w.heap.size, 40, none⟩ = some (.int .u64 (x.soft : Int)) ∧ wx.cell? ⟨w.heap.size, 41, none⟩ = some (.int .i64 x.tear) := by
  obtain ⟨a0, a1, a2, a3, a4, a5⟩ := stepCells_at (kv := kv) h
  refine ⟨fun j v hj => ?_, ?_, ?_, ?_, ?_, ?_⟩
  · rw [cell_of_row wx _ _ _ _ _ hB]; simpa using a0 j v hj
  · rw [cell_of_row wx _ _ _ _ _ hB]; simpa using a1
  · rw [cell_of_row wx _ _ _ _ _ hB]; simpa using a2
  · rw [cell_of_row wx _ _ _ _ _ hB]; simpa using a3
  · rw [cell_of_row wx _ _ _ _ _ hB]; simpa using a4
  · rw [cell_of_row wx _ _ _ _ _ hB]; simpa using a5

theorem info35 : (Tryd.prog.info? 35).map (·.size) = some 37 := by kernel_rfl
theorem opCells_len {o : Tx.OpV} (h : o.data.length = 32) : (opCells o).length = 37 := by simp [opCells, h]

set_option maxHeartbeats 4000000 in
set_option maxRecDepth 100000 in
/-- An operation's line. -/
theorem line_op (x : Tx.StepV) (kv : Value) (w : World) (hx : StepOk2 x) (hc : x.crash = false) (ha : ¬ 0 < x.arm) (L : Ld w) :
    Calls Tryd.prog 26 #[.agg (stepCells x kv).toArray] w (LineP (Tx.lineL x) w) := by
  have HX := Lib.hid hx
  have hl : Tx.lineL x = Tx.fieldsF x.op := by unfold Tx.lineL; rw [hc]; simp [ha]
  have HLL := Lib.hid hl
  obtain ⟨r0, c1, c2, c3, c4, c5⟩ := box_step (x := x) (kv := kv) (w := w) (wx := w.alloc (.cells (stepCells x kv).toArray 41)) hx.op.data (heap_alloc_new w _)
  rw [hc] at c2
  have R0 := Lib.hid r0
  have L1 := L.alloc (.cells (stepCells x kv).toArray 41)
  have hbase := (Below.refl w.heap.size w).alloc (Nat.le_refl _) (.cells (stepCells x kv).toArray 41)
  have HB := Lib.hid hbase
  have ha' : x.arm ≤ 0 := by omega
  clear hx hl r0 hc ha hbase c3 c4 c5
  go_enter Tryd.func26, Tryd.ntmps26
  go_wp2_with (refine wpList_load_mid rfl 35 _ rfl w.heap.size 0 rfl (opCells x.op) _ R0.out Tryd.underlying35 rfl (info35.trans (by rw [opCells_len HX.out.op.data])) ?_)
  refine (fields_any x.op _ HX.out.op L1).mono ?_
  rintro e w1 ⟨v, rfl, hown, hb⟩
  have HO := Lib.hid hown
  have HB1 := Lib.hid (HB.out.trans (hb.mono (by simp)))
  have hjl : (Lib.join (Tx.fieldsF x.op) [32]).length ≤ 30000 := by
    have hl := fields_len HX.out.op
    have := join_len 64 _ hl.2
    have := Nat.mul_le_mul_right 65 hl.1
    omega
  have HLen := Lib.hid (fields_len HX.out.op)
  clear hown hb
  go_wp2_with (go_at_call 39; refine (join_own _ v _ _ HO.out (by have := HLen.out.1; omega) (by omega)).mono ?_; rintro e w2 ⟨rfl, hb2⟩)
  go_ret
  exact ⟨by rw [HLL.out, str_add]; rfl, HB1.out.trans (hb2.mono HB1.out.size)⟩

set_option maxHeartbeats 4000000 in
set_option maxRecDepth 100000 in
/-- An arm's line. -/
theorem line_arm (x : Tx.StepV) (kv : Value) (w : World) (hx : StepOk2 x) (hc : x.crash = false) (ha : 0 < x.arm) (L : Ld w) :
    Calls Tryd.prog 26 #[.agg (stepCells x kv).toArray] w (LineP (Tx.lineL x) w) := by
  have HX := Lib.hid hx
  have hl : Tx.lineL x = [Tx.armW, Lib.itoa x.arm] := by unfold Tx.lineL; rw [hc]; simp [ha]
  have HLL := Lib.hid hl
  obtain ⟨r0, c1, c2, c3, c4, c5⟩ := box_step (x := x) (kv := kv) (w := w) (wx := w.alloc (.cells (stepCells x kv).toArray 41)) hx.op.data (heap_alloc_new w _)
  rw [hc] at c2
  have L1 := L.alloc (.cells (stepCells x kv).toArray 41)
  have hbase := (Below.refl w.heap.size w).alloc (Nat.le_refl _) (.cells (stepCells x kv).toArray 41)
  have HB := Lib.hid hbase
  have hjl : (Lib.join [Tx.armW, Lib.itoa x.arm] [32]).length ≤ 30000 := by rw [← hl]; exact line_len hx
  have HJ := Lib.hid hjl
  clear hx hl r0 hc hbase c3 c4 c5
  go_enter Tryd.func26, Tryd.ntmps26
  go_wp2_with (go_at_call 37; refine (itoa_any x.arm _ HX.out.arm L1).mono ?_; rintro e w1 ⟨rfl, hb⟩)
  have HB1 := Lib.hid (HB.out.trans (hb.mono (by simp)))
  clear hb
  refine (join_cells w1.heap.size 2 [Tx.armW, Lib.itoa x.arm] _ (fun j y hj => ?_) (by simp) (by simp) (by simp) (by simp) (Nat.le_trans HJ.out (by omega))).mono ?_
  · rw [World.cell?_alloc_new]
    match j, hj with
    | 0, hj => simp at hj; subst hj; rfl
    | 1, hj => simp at hj; subst hj; rfl
    | j + 2, hj => simp at hj
  rintro e w2 ⟨rfl, hb2⟩
  go_wp2
  go_ret
  exact ⟨by rw [HLL.out, str_add]; rfl, (HB1.out.alloc HB1.out.size _).trans (hb2.mono (by have := HB1.out.size; simp; omega))⟩

end Go.Proofs.YtjjlmhlfobmpgaaDoor
