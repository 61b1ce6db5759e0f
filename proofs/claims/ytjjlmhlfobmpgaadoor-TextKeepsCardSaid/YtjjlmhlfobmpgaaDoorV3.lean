/-
Walks: windrowref25.Line of an arm.
-/
import Derived.Test.YtjjlmhlfobmpgaaDoorV2
namespace Go.Proofs.YtjjlmhlfobmpgaaDoor
open Go.RowKit

set_option maxHeartbeats 4000000 in
set_option maxRecDepth 100000 in
theorem rline_arm1 (x : Tx.StepV) (kv : Value) (w : World) (hd : x.op.data.length = 32) (hk : KeepR w kv x.keep) (hc : x.crash = false) (h2 : ((x.soft : Int) != 0) = false) (h3 : (x.tear != 0) = false) (h4 : ((x.keep.length : Int) != 0) = false) (h5 : (x.arm != 0) = true) (h1 : Tx.opEq x.op Tx.op0 = false) :
    Calls Tryd.prog 16 #[.agg (stepCells x kv).toArray] w (RLineP (Tx.refLine x) w) := by
  have HL := Lib.hid (lineW x kv w hd)
  have HZ0 : Hid (((w.alloc (.cells (stepCells x kv).toArray 41)).alloc (.cells Z37 35)).heap[w.heap.size + 1]? = some (.cells Z37 35 (0, 0))) := Lib.hid (by rw [M.heap_alloc_if, if_pos (by simp)])
  have HD := Lib.hid hd
  have HK := Lib.hid hk
  have HF : Hid (Tx.refLine x = none) := Lib.hid (by have h2' : (x.soft != 0) = false := (by (simp at h2 ⊢; omega)); have h4' : (x.keep.length != 0) = false := (by (simp at h4 ⊢; exact h4)); unfold Tx.refLine; simp only [hc, h2', h3, h4', h5, h1]; simp)
  have hne := run_ne_op x.op Tx.op0 hd rfl
  rw [h1] at hne
  have HNE := Lib.hid hne
  clear hne h1
  have HC := Lib.hid hc
  clear hd hk hc
  go_enter Tryd.func16, Tryd.ntmps16
  go_upto_region 2 with (first
    | ((with_reducible show wpList _ _ _ ({ dst := _, op := Op.alloc 35, type := _, pos := _, after := _, guard := _ } :: _) _ _); refine wpList_alloc rfl 35 rfl _ (run_alloc35' _ _) ?_)
    | ((with_reducible show wpList _ _ _ ({ dst := _, op := Op.store 35 _ _, type := _, pos := _, after := _, guard := _ } :: _) _ _); refine M.wpList_store_row rfl 35 _ _ rfl (w.heap.size + 1) rfl 35 Z37 Z37 rfl HZ0.out info35 rfl one_Z37 ?_))
  clear HZ0
  generalize ((w.alloc (.cells (stepCells x kv).toArray 41)).alloc (.cells Z37 35)).setRow (w.heap.size + 1) Z37 = W at *
  have c2 := HL.out.crash
  rw [HC.out] at c2
  have c4 := HL.out.soft
  have c5 := HL.out.tear
  have c3 := HL.out.keep
  obtain ⟨a9, c9, rfl, -⟩ := HK.out
  have c1 := HL.out.arm
  go_wp2_with (first
    | ((with_reducible show wpList _ _ _ ({ dst := _, op := Op.load 35 _, type := _, pos := _, after := _, guard := _ } :: _) _ _); first
        | (refine wpList_load_mid rfl 35 _ rfl w.heap.size 0 rfl (opCells x.op) _ HL.out.range Tryd.underlying35 rfl (info35.trans (by rw [opCells_len HD.out])) ?_)
        | (refine wpList_load_row rfl 35 _ rfl (w.heap.size + 1) rfl 35 (opCells Tx.op0).toArray (0, 0) _ HL.out.zero Tryd.underlying35 rfl info35 ?_))
    | ((with_reducible show wpList _ _ _ ({ dst := _, op := Op.binOp .neq 35 _ _ _, type := _, pos := _, after := _, guard := _ } :: _) _ _); refine wpList_binop rfl .neq 35 35 _ _ rfl (.agg (opCells x.op).toArray) (.agg (opCells Tx.op0).toArray) _ rfl rfl (run_eqGuard_agg _ _ _ _ _ _ _ guard35) (HNE.out _) ?_)
    | (go_at_call 21; refine (fits_any _ _).mono ?_; rintro e w' ⟨rfl, rfl⟩))
  go_ret2
  show RLineP (Tx.refLine x) _ _ _
  rw [HF.out]
  exact ⟨HL.out.below, _, rfl⟩

set_option maxHeartbeats 4000000 in
set_option maxRecDepth 100000 in
theorem rline_arm2 (x : Tx.StepV) (kv : Value) (w : World) (hd : x.op.data.length = 32) (hk : KeepR w kv x.keep) (hc : x.crash = false) (h2 : ((x.soft : Int) != 0) = false) (h3 : (x.tear != 0) = false) (h4 : ((x.keep.length : Int) != 0) = false) (h5 : (x.arm != 0) = true) (h1 : Tx.opEq x.op Tx.op0 = true) (h6 : Tx.fits x.arm = false) :
    Calls Tryd.prog 16 #[.agg (stepCells x kv).toArray] w (RLineP (Tx.refLine x) w) := by
  have HL := Lib.hid (lineW x kv w hd)
  have HZ0 : Hid (((w.alloc (.cells (stepCells x kv).toArray 41)).alloc (.cells Z37 35)).heap[w.heap.size + 1]? = some (.cells Z37 35 (0, 0))) := Lib.hid (by rw [M.heap_alloc_if, if_pos (by simp)])
  have HD := Lib.hid hd
  have HK := Lib.hid hk
  have HF : Hid (Tx.refLine x = none) := Lib.hid (by have h2' : (x.soft != 0) = false := (by (simp at h2 ⊢; omega)); have h4' : (x.keep.length != 0) = false := (by (simp at h4 ⊢; exact h4)); unfold Tx.refLine; simp only [hc, h2', h3, h4', h5, h1, h6]; simp)
  have hne := run_ne_op x.op Tx.op0 hd rfl
  rw [h1] at hne
  have HNE := Lib.hid hne
  clear hne h1
  have HC := Lib.hid hc
  clear hd hk hc
  go_enter Tryd.func16, Tryd.ntmps16
  go_upto_region 2 with (first
    | ((with_reducible show wpList _ _ _ ({ dst := _, op := Op.alloc 35, type := _, pos := _, after := _, guard := _ } :: _) _ _); refine wpList_alloc rfl 35 rfl _ (run_alloc35' _ _) ?_)
    | ((with_reducible show wpList _ _ _ ({ dst := _, op := Op.store 35 _ _, type := _, pos := _, after := _, guard := _ } :: _) _ _); refine M.wpList_store_row rfl 35 _ _ rfl (w.heap.size + 1) rfl 35 Z37 Z37 rfl HZ0.out info35 rfl one_Z37 ?_))
  clear HZ0
  generalize ((w.alloc (.cells (stepCells x kv).toArray 41)).alloc (.cells Z37 35)).setRow (w.heap.size + 1) Z37 = W at *
  have c2 := HL.out.crash
  rw [HC.out] at c2
  have c4 := HL.out.soft
  have c5 := HL.out.tear
  have c3 := HL.out.keep
  obtain ⟨a9, c9, rfl, -⟩ := HK.out
  have c1 := HL.out.arm
  go_wp2_with (first
    | ((with_reducible show wpList _ _ _ ({ dst := _, op := Op.load 35 _, type := _, pos := _, after := _, guard := _ } :: _) _ _); first
        | (refine wpList_load_mid rfl 35 _ rfl w.heap.size 0 rfl (opCells x.op) _ HL.out.range Tryd.underlying35 rfl (info35.trans (by rw [opCells_len HD.out])) ?_)
        | (refine wpList_load_row rfl 35 _ rfl (w.heap.size + 1) rfl 35 (opCells Tx.op0).toArray (0, 0) _ HL.out.zero Tryd.underlying35 rfl info35 ?_))
    | ((with_reducible show wpList _ _ _ ({ dst := _, op := Op.binOp .neq 35 _ _ _, type := _, pos := _, after := _, guard := _ } :: _) _ _); refine wpList_binop rfl .neq 35 35 _ _ rfl (.agg (opCells x.op).toArray) (.agg (opCells Tx.op0).toArray) _ rfl rfl (run_eqGuard_agg _ _ _ _ _ _ _ guard35) (HNE.out _) ?_)
    | (go_at_call 21; refine (fits_any _ _).mono ?_; rintro e w' ⟨rfl, rfl⟩))
  go_ret2
  show RLineP (Tx.refLine x) _ _ _
  rw [HF.out]
  exact ⟨HL.out.below, _, rfl⟩

set_option maxHeartbeats 4000000 in
set_option maxRecDepth 100000 in
theorem rline_arm3 (x : Tx.StepV) (kv : Value) (w : World) (hd : x.op.data.length = 32) (hk : KeepR w kv x.keep) (hc : x.crash = false) (h2 : ((x.soft : Int) != 0) = false) (h3 : (x.tear != 0) = false) (h4 : ((x.keep.length : Int) != 0) = false) (h5 : (x.arm != 0) = true) (h1 : Tx.opEq x.op Tx.op0 = true) (h6 : Tx.fits x.arm = true) :
    Calls Tryd.prog 16 #[.agg (stepCells x kv).toArray] w (RLineP (Tx.refLine x) w) := by
  have HL := Lib.hid (lineW x kv w hd)
  have HZ0 : Hid (((w.alloc (.cells (stepCells x kv).toArray 41)).alloc (.cells Z37 35)).heap[w.heap.size + 1]? = some (.cells Z37 35 (0, 0))) := Lib.hid (by rw [M.heap_alloc_if, if_pos (by simp)])
  have HD := Lib.hid hd
  have HK := Lib.hid hk
  have HF : Hid (Tx.refLine x = some (Tx.armW ++ [32] ++ Lib.decDigits x.arm.toNat ++ [10])) := Lib.hid (by have h2' : (x.soft != 0) = false := (by (simp at h2 ⊢; omega)); have h4' : (x.keep.length != 0) = false := (by (simp at h4 ⊢; exact h4)); unfold Tx.refLine; simp only [hc, h2', h3, h4', h5, h1, h6]; simp)
  have hfit : 0 ≤ x.arm ∧ x.arm ≤ 999999 := by simpa [Tx.fits] using h6
  have hwr : IntKind.u64.wrap x.arm = x.arm := IntWalk.u64_in _ (by omega)
  have HSP := Lib.hid (fun w => spell_any x.arm w ⟨hfit.1, by omega⟩)
  have hdl := dec_len x.arm.toNat (by omega)
  have hne := run_ne_op x.op Tx.op0 hd rfl
  rw [h1] at hne
  have HNE := Lib.hid hne
  clear hne h1
  have HC := Lib.hid hc
  clear hd hk hc
  go_enter Tryd.func16, Tryd.ntmps16
  go_upto_region 2 with (first
    | ((with_reducible show wpList _ _ _ ({ dst := _, op := Op.alloc 35, type := _, pos := _, after := _, guard := _ } :: _) _ _); refine wpList_alloc rfl 35 rfl _ (run_alloc35' _ _) ?_)
    | ((with_reducible show wpList _ _ _ ({ dst := _, op := Op.store 35 _ _, type := _, pos := _, after := _, guard := _ } :: _) _ _); refine M.wpList_store_row rfl 35 _ _ rfl (w.heap.size + 1) rfl 35 Z37 Z37 rfl HZ0.out info35 rfl one_Z37 ?_))
  clear HZ0
  generalize ((w.alloc (.cells (stepCells x kv).toArray 41)).alloc (.cells Z37 35)).setRow (w.heap.size + 1) Z37 = W at *
  have c2 := HL.out.crash
  rw [HC.out] at c2
  have c4 := HL.out.soft
  have c5 := HL.out.tear
  have c3 := HL.out.keep
  obtain ⟨a9, c9, rfl, -⟩ := HK.out
  have c1 := HL.out.arm
  go_wp2_with (first
    | ((with_reducible show wpList _ _ _ ({ dst := _, op := Op.load 35 _, type := _, pos := _, after := _, guard := _ } :: _) _ _); first
        | (refine wpList_load_mid rfl 35 _ rfl w.heap.size 0 rfl (opCells x.op) _ HL.out.range Tryd.underlying35 rfl (info35.trans (by rw [opCells_len HD.out])) ?_)
        | (refine wpList_load_row rfl 35 _ rfl (w.heap.size + 1) rfl 35 (opCells Tx.op0).toArray (0, 0) _ HL.out.zero Tryd.underlying35 rfl info35 ?_))
    | ((with_reducible show wpList _ _ _ ({ dst := _, op := Op.binOp .neq 35 _ _ _, type := _, pos := _, after := _, guard := _ } :: _) _ _); refine wpList_binop rfl .neq 35 35 _ _ rfl (.agg (opCells x.op).toArray) (.agg (opCells Tx.op0).toArray) _ rfl rfl (run_eqGuard_agg _ _ _ _ _ _ _ guard35) (HNE.out _) ?_)
    | (go_at_call 21; refine (fits_any _ _).mono ?_; rintro e w' ⟨rfl, rfl⟩)
    | (go_at_call 22; refine (HSP.out _).mono ?_; rintro e w1 ⟨rfl, hb1⟩))
  go_ret2
  show RLineP (Tx.refLine x) _ _ _
  rw [HF.out]
  refine ⟨HL.out.below.trans (hb1.mono HL.out.below.size), ?_⟩
  show Ending.returned _ = Ending.returned _
  congr 2

end Go.Proofs.YtjjlmhlfobmpgaaDoor
