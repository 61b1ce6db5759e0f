/-
Walks: windrowref25.Line where there is none.
-/
import Derived.Test.YtjjlmhlfobmpgaaDoorV
namespace Go.Proofs.YtjjlmhlfobmpgaaDoor
open Go.RowKit

set_option maxHeartbeats 4000000 in
set_option maxRecDepth 100000 in
theorem rline_crash2 (x : Tx.StepV) (kv : Value) (w : World) (hd : x.op.data.length = 32) (hk : KeepR w kv x.keep) (hc : x.crash = true) (h1 : Tx.opEq x.op Tx.op0 = true) (h2 : (x.arm != 0) = true) :
    Calls Tryd.prog 16 #[.agg (stepCells x kv).toArray] w (RLineP (Tx.refLine x) w) := by
  have HL := Lib.hid (lineW x kv w hd)
  have HZ0 : Hid (((w.alloc (.cells (stepCells x kv).toArray 41)).alloc (.cells Z37 35)).heap[w.heap.size + 1]? = some (.cells Z37 35 (0, 0))) := Lib.hid (by rw [M.heap_alloc_if, if_pos (by simp)])
  have HD := Lib.hid hd
  have HK := Lib.hid hk
  have HF : Hid (Tx.refLine x = none) := Lib.hid (by unfold Tx.refLine; simp [hc, h1, h2])
  have hne := run_ne_op x.op Tx.op0 hd rfl
  rw [h1] at hne
  have HNE := Lib.hid hne
  clear hne h1
  have HC := Lib.hid hc
  clear hd hk hc
  go_enter Tryd.func16, Tryd.ntmps16
  go_upto_region 2 with (first
    | ((with_reducible show wpList _ _ _ ({ dst := _, op := Op.alloc 35, type := _, pos := _, after := _, guard := _ } :: _) _ _); refine wpList_alloc rfl 35 rfl _ (run_alloc35' _ _) ?_)
    | ((with_reducible show wpList _ _ _ ({ dst := _, op := Op.store 35 _ _, type := _, pos := _, after := _, guard := _ } :: _) _ _); refine M.wpList_store_row rfl 35 _ _ rfl (w.heap.size + 1) rfl 35 Z37 Z37 rfl HZ0.out info35 rfl one_Z37 ?_))
  clear HZ0
  generalize ((w.alloc (.cells (stepCells x kv).toArray 41)).alloc (.cells Z37 35)).setRow (w.heap.size + 1) Z37 = W at *
  have c2 := HL.out.crash
  rw [HC.out] at c2
  have c1 := HL.out.arm
  go_wp2_with (first
    | ((with_reducible show wpList _ _ _ ({ dst := _, op := Op.load 35 _, type := _, pos := _, after := _, guard := _ } :: _) _ _); first
        | (refine wpList_load_mid rfl 35 _ rfl w.heap.size 0 rfl (opCells x.op) _ HL.out.range Tryd.underlying35 rfl (info35.trans (by rw [opCells_len HD.out])) ?_)
        | (refine wpList_load_row rfl 35 _ rfl (w.heap.size + 1) rfl 35 (opCells Tx.op0).toArray (0, 0) _ HL.out.zero Tryd.underlying35 rfl info35 ?_))
    | ((with_reducible show wpList _ _ _ ({ dst := _, op := Op.binOp .neq 35 _ _ _, type := _, pos := _, after := _, guard := _ } :: _) _ _); refine wpList_binop rfl .neq 35 35 _ _ rfl (.agg (opCells x.op).toArray) (.agg (opCells Tx.op0).toArray) _ rfl rfl (run_eqGuard_agg _ _ _ _ _ _ _ guard35) (HNE.out _) ?_)
    | (go_at_call 21; refine (fits_any _ _).mono ?_; rintro e w' ⟨rfl, rfl⟩))
  go_ret2
  show RLineP (Tx.refLine x) _ _ _
  rw [HF.out]
  exact ⟨HL.out.below, _, rfl⟩

set_option maxHeartbeats 4000000 in
set_option maxRecDepth 100000 in
theorem rline_crash3 (x : Tx.StepV) (kv : Value) (w : World) (hd : x.op.data.length = 32) (hk : KeepR w kv x.keep) (hc : x.crash = true) (h1 : Tx.opEq x.op Tx.op0 = true) (h2 : (x.arm != 0) = false) (h3 : Tx.fits x.tear = false) :
    Calls Tryd.prog 16 #[.agg (stepCells x kv).toArray] w (RLineP (Tx.refLine x) w) := by
  have HL := Lib.hid (lineW x kv w hd)
  have HZ0 : Hid (((w.alloc (.cells (stepCells x kv).toArray 41)).alloc (.cells Z37 35)).heap[w.heap.size + 1]? = some (.cells Z37 35 (0, 0))) := Lib.hid (by rw [M.heap_alloc_if, if_pos (by simp)])
  have HD := Lib.hid hd
  have HK := Lib.hid hk
  have HF : Hid (Tx.refLine x = none) := Lib.hid (by unfold Tx.refLine; simp [hc, h1, h2, h3])
  have hne := run_ne_op x.op Tx.op0 hd rfl
  rw [h1] at hne
  have HNE := Lib.hid hne
  clear hne h1
  have HC := Lib.hid hc
  clear hd hk hc
  go_enter Tryd.func16, Tryd.ntmps16
  go_upto_region 2 with (first
    | ((with_reducible show wpList _ _ _ ({ dst := _, op := Op.alloc 35, type := _, pos := _, after := _, guard := _ } :: _) _ _); refine wpList_alloc rfl 35 rfl _ (run_alloc35' _ _) ?_)
    | ((with_reducible show wpList _ _ _ ({ dst := _, op := Op.store 35 _ _, type := _, pos := _, after := _, guard := _ } :: _) _ _); refine M.wpList_store_row rfl 35 _ _ rfl (w.heap.size + 1) rfl 35 Z37 Z37 rfl HZ0.out info35 rfl one_Z37 ?_))
  clear HZ0
  generalize ((w.alloc (.cells (stepCells x kv).toArray 41)).alloc (.cells Z37 35)).setRow (w.heap.size + 1) Z37 = W at *
  have c2 := HL.out.crash
  rw [HC.out] at c2
  have c1 := HL.out.arm
  have c5 := HL.out.tear
  go_wp2_with (first
    | ((with_reducible show wpList _ _ _ ({ dst := _, op := Op.load 35 _, type := _, pos := _, after := _, guard := _ } :: _) _ _); first
        | (refine wpList_load_mid rfl 35 _ rfl w.heap.size 0 rfl (opCells x.op) _ HL.out.range Tryd.underlying35 rfl (info35.trans (by rw [opCells_len HD.out])) ?_)
        | (refine wpList_load_row rfl 35 _ rfl (w.heap.size + 1) rfl 35 (opCells Tx.op0).toArray (0, 0) _ HL.out.zero Tryd.underlying35 rfl info35 ?_))
    | ((with_reducible show wpList _ _ _ ({ dst := _, op := Op.binOp .neq 35 _ _ _, type := _, pos := _, after := _, guard := _ } :: _) _ _); refine wpList_binop rfl .neq 35 35 _ _ rfl (.agg (opCells x.op).toArray) (.agg (opCells Tx.op0).toArray) _ rfl rfl (run_eqGuard_agg _ _ _ _ _ _ _ guard35) (HNE.out _) ?_)
    | (go_at_call 21; refine (fits_any _ _).mono ?_; rintro e w' ⟨rfl, rfl⟩))
  go_ret2
  show RLineP (Tx.refLine x) _ _ _
  rw [HF.out]
  exact ⟨HL.out.below, _, rfl⟩

set_option maxHeartbeats 4000000 in
set_option maxRecDepth 100000 in
theorem rline_soft (x : Tx.StepV) (kv : Value) (w : World) (hd : x.op.data.length = 32) (hk : KeepR w kv x.keep) (hc : x.crash = false) (h2 : ((x.soft : Int) != 0) = true) :
    Calls Tryd.prog 16 #[.agg (stepCells x kv).toArray] w (RLineP (Tx.refLine x) w) := by
  have HL := Lib.hid (lineW x kv w hd)
  have HZ0 : Hid (((w.alloc (.cells (stepCells x kv).toArray 41)).alloc (.cells Z37 35)).heap[w.heap.size + 1]? = some (.cells Z37 35 (0, 0))) := Lib.hid (by rw [M.heap_alloc_if, if_pos (by simp)])
  have HD := Lib.hid hd
  have HK := Lib.hid hk
  have HF : Hid (Tx.refLine x = none) := Lib.hid (by have h2' : (x.soft != 0) = true := (by (simp at h2 ⊢; omega)); unfold Tx.refLine; simp [hc, h2'])
  have HC := Lib.hid hc
  clear hd hk hc
  go_enter Tryd.func16, Tryd.ntmps16
  go_upto_region 2 with (first
    | ((with_reducible show wpList _ _ _ ({ dst := _, op := Op.alloc 35, type := _, pos := _, after := _, guard := _ } :: _) _ _); refine wpList_alloc rfl 35 rfl _ (run_alloc35' _ _) ?_)
    | ((with_reducible show wpList _ _ _ ({ dst := _, op := Op.store 35 _ _, type := _, pos := _, after := _, guard := _ } :: _) _ _); refine M.wpList_store_row rfl 35 _ _ rfl (w.heap.size + 1) rfl 35 Z37 Z37 rfl HZ0.out info35 rfl one_Z37 ?_))
  clear HZ0
  generalize ((w.alloc (.cells (stepCells x kv).toArray 41)).alloc (.cells Z37 35)).setRow (w.heap.size + 1) Z37 = W at *
  have c2 := HL.out.crash
  rw [HC.out] at c2
  have c4 := HL.out.soft
  go_wp2
  go_ret2
  show RLineP (Tx.refLine x) _ _ _
  rw [HF.out]
  exact ⟨HL.out.below, _, rfl⟩

set_option maxHeartbeats 4000000 in
set_option maxRecDepth 100000 in
theorem rline_tear (x : Tx.StepV) (kv : Value) (w : World) (hd : x.op.data.length = 32) (hk : KeepR w kv x.keep) (hc : x.crash = false) (h2 : ((x.soft : Int) != 0) = false) (h3 : (x.tear != 0) = true) :
    Calls Tryd.prog 16 #[.agg (stepCells x kv).toArray] w (RLineP (Tx.refLine x) w) := by
  have HL := Lib.hid (lineW x kv w hd)
  have HZ0 : Hid (((w.alloc (.cells (stepCells x kv).toArray 41)).alloc (.cells Z37 35)).heap[w.heap.size + 1]? = some (.cells Z37 35 (0, 0))) := Lib.hid (by rw [M.heap_alloc_if, if_pos (by simp)])
  have HD := Lib.hid hd
  have HK := Lib.hid hk
  have HF : Hid (Tx.refLine x = none) := Lib.hid (by unfold Tx.refLine; simp [hc, h3])
  have HC := Lib.hid hc
  clear hd hk hc
  go_enter Tryd.func16, Tryd.ntmps16
  go_upto_region 2 with (first
    | ((with_reducible show wpList _ _ _ ({ dst := _, op := Op.alloc 35, type := _, pos := _, after := _, guard := _ } :: _) _ _); refine wpList_alloc rfl 35 rfl _ (run_alloc35' _ _) ?_)
    | ((with_reducible show wpList _ _ _ ({ dst := _, op := Op.store 35 _ _, type := _, pos := _, after := _, guard := _ } :: _) _ _); refine M.wpList_store_row rfl 35 _ _ rfl (w.heap.size + 1) rfl 35 Z37 Z37 rfl HZ0.out info35 rfl one_Z37 ?_))
  clear HZ0
  generalize ((w.alloc (.cells (stepCells x kv).toArray 41)).alloc (.cells Z37 35)).setRow (w.heap.size + 1) Z37 = W at *
  have c2 := HL.out.crash
  rw [HC.out] at c2
  have c4 := HL.out.soft
  have c5 := HL.out.tear
  go_wp2
  go_ret2
  show RLineP (Tx.refLine x) _ _ _
  rw [HF.out]
  exact ⟨HL.out.below, _, rfl⟩

set_option maxHeartbeats 4000000 in
set_option maxRecDepth 100000 in
theorem rline_keep (x : Tx.StepV) (kv : Value) (w : World) (hd : x.op.data.length = 32) (hk : KeepR w kv x.keep) (hc : x.crash = false) (h2 : ((x.soft : Int) != 0) = false) (h3 : (x.tear != 0) = false) (h4 : ((x.keep.length : Int) != 0) = true) :
    Calls Tryd.prog 16 #[.agg (stepCells x kv).toArray] w (RLineP (Tx.refLine x) w) := by
  have HL := Lib.hid (lineW x kv w hd)
  have HZ0 : Hid (((w.alloc (.cells (stepCells x kv).toArray 41)).alloc (.cells Z37 35)).heap[w.heap.size + 1]? = some (.cells Z37 35 (0, 0))) := Lib.hid (by rw [M.heap_alloc_if, if_pos (by simp)])
  have HD := Lib.hid hd
  have HK := Lib.hid hk
  have HF : Hid (Tx.refLine x = none) := Lib.hid (by have h4' : (x.keep.length != 0) = true := (by (simp at h4 ⊢; exact h4)); unfold Tx.refLine; simp only [hc, h4']; simp)
  have HC := Lib.hid hc
  clear hd hk hc
  go_enter Tryd.func16, Tryd.ntmps16
  go_upto_region 2 with (first
    | ((with_reducible show wpList _ _ _ ({ dst := _, op := Op.alloc 35, type := _, pos := _, after := _, guard := _ } :: _) _ _); refine wpList_alloc rfl 35 rfl _ (run_alloc35' _ _) ?_)
    | ((with_reducible show wpList _ _ _ ({ dst := _, op := Op.store 35 _ _, type := _, pos := _, after := _, guard := _ } :: _) _ _); refine M.wpList_store_row rfl 35 _ _ rfl (w.heap.size + 1) rfl 35 Z37 Z37 rfl HZ0.out info35 rfl one_Z37 ?_))
  clear HZ0
  generalize ((w.alloc (.cells (stepCells x kv).toArray 41)).alloc (.cells Z37 35)).setRow (w.heap.size + 1) Z37 = W at *
  have c2 := HL.out.crash
  rw [HC.out] at c2
  have c4 := HL.out.soft
  have c5 := HL.out.tear
  have c3 := HL.out.keep
  obtain ⟨a9, c9, rfl, -⟩ := HK.out
  go_wp2
  go_ret2
  show RLineP (Tx.refLine x) _ _ _
  rw [HF.out]
  exact ⟨HL.out.below, _, rfl⟩

end Go.Proofs.YtjjlmhlfobmpgaaDoor
