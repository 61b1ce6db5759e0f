/-
Walks: windrowref25.Line.
-/
import Derived.Test.YtjjlmhlfobmpgaaDoorU
namespace Go.Proofs.YtjjlmhlfobmpgaaDoor
open Go.RowKit

/-- What the reference's Line answers. -/
def RLineP (r : Option Tx.Bytes) (w : World) (e : Ending) (w' : World) : Prop :=
  Below w.heap.size w w' ∧ match r with
  | some t => e = .returned (.tuple #[.string ⟨t.toArray⟩, .bool true])
  | none => ∃ s, e = .returned (.tuple #[.string s, .bool false])

theorem run_alloc35 (w : World) : (Instr.alloc 35 true (.tuple #[])).run Tryd.prog w = .ok (.pointer (some ⟨w.heap.size, 0, none⟩)) (w.alloc (.cells Z37 35)) := by
  simp [Instr.alloc, go_sem, Tryd.zeroValue35]
  rfl

section
variable {P : Program}
theorem wpList_alloc {ops : Array Oper} {rest : List Oper} {o : Oper} {a : Act} {w w' : World} {Q : Exit → Act → World → Prop} (hgd : o.guard = none) (t : TypeId) (ho : o.op = .alloc t) (v : Value)
    (hr : (Instr.alloc t true (.tuple #[])).run P w = .ok v w') (h : wpList P ops Q rest (a.put o.dst v) w') : wpList P ops Q (o :: rest) a w :=
  wpList_plain hgd fun _ hK => by
    unfold Oper.wp execOp
    simp only [ho, hr, Sem.run_bind, Sem.run_pure, Result.andThen_ok]
    exact hK _ _ h
end

/-- The world behind the first statements. -/
structure LineW (x : Tx.StepV) (kv : Value) (w W : World) : Prop where
  range : W.rangeAt w.heap.size 0 (opCells x.op)
  arm : W.cell? ⟨w.heap.size, 37, none⟩ = some (.int .i64 x.arm)
  crash : W.cell? ⟨w.heap.size, 38, none⟩ = some (.bool x.crash)
  keep : W.cell? ⟨w.heap.size, 39, none⟩ = some kv
  soft : W.cell? ⟨w.heap.size, 40, none⟩ = some (.int .u64 (x.soft : Int))
  tear : W.cell? ⟨w.heap.size, 41, none⟩ = some (.int .i64 x.tear)
  box : W.heap[w.heap.size]? = some (.cells (stepCells x kv).toArray 41 (0, 0))
  zero : W.heap[w.heap.size + 1]? = some (.cells (opCells Tx.op0).toArray 35 (0, 0))
  below : Below w.heap.size w W

theorem Z37_op : Z37 = (opCells Tx.op0).toArray := rfl

theorem lineW (x : Tx.StepV) (kv : Value) (w : World) (h : x.op.data.length = 32) :
    LineW x kv w (((w.alloc (.cells (stepCells x kv).toArray 41)).alloc (.cells Z37 35)).setRow (w.heap.size + 1) Z37) := by
  have hb : (((w.alloc (.cells (stepCells x kv).toArray 41)).alloc (.cells Z37 35)).setRow (w.heap.size + 1) Z37).heap[w.heap.size]? = some (.cells (stepCells x kv).toArray 41 (0, 0)) := by
    rw [M.heap_setRow_other _ _ _ _ (by omega), M.heap_alloc_if, if_neg (by simp), M.heap_alloc_if, if_pos rfl]
  obtain ⟨a0, a1, a2, a3, a4, a5⟩ := box_step h hb
  refine ⟨a0, a1, a2, a3, a4, a5, hb, (M.heap_setRow_same _ _ Z37 _ _ ?_).trans (by rw [Z37_op]), M.below_setRow (((Below.refl _ _).alloc (Nat.le_refl _) _).alloc (by simp) _) (by omega) _⟩
  rw [M.heap_alloc_if, if_pos (by simp)]

theorem size_new (w : World) (o : Obj) : (w.alloc o).heap.size = w.heap.size + 1 := by simp
theorem run_alloc35' (w : World) (o : Obj) : (Instr.alloc 35 true (.tuple #[])).run Tryd.prog (w.alloc o) = .ok (.pointer (some ⟨w.heap.size + 1, 0, none⟩)) ((w.alloc o).alloc (.cells Z37 35)) := by
  rw [run_alloc35, size_new]

def HZ (w : World) (x : Tx.StepV) (kv : Value) : Prop := ((w.alloc (.cells (stepCells x kv).toArray 41)).alloc (.cells Z37 35)).heap[w.heap.size + 1]? = some (.cells Z37 35 (0, 0))

set_option maxHeartbeats 4000000 in
set_option maxRecDepth 100000 in
theorem rline_crash1 (x : Tx.StepV) (kv : Value) (w : World) (hd : x.op.data.length = 32) (hk : KeepR w kv x.keep) (hc : x.crash = true) (h1 : Tx.opEq x.op Tx.op0 = false) :
    Calls Tryd.prog 16 #[.agg (stepCells x kv).toArray] w (RLineP (Tx.refLine x) w) := by
  have HL := Lib.hid (lineW x kv w hd)
  have HZ0 : Hid (((w.alloc (.cells (stepCells x kv).toArray 41)).alloc (.cells Z37 35)).heap[w.heap.size + 1]? = some (.cells Z37 35 (0, 0))) := Lib.hid (by rw [M.heap_alloc_if, if_pos (by simp)])
  have HD := Lib.hid hd
  have HK := Lib.hid hk
  have HF : Hid (Tx.refLine x = none) := Lib.hid (by unfold Tx.refLine; simp [hc, h1])
  have hne := run_ne_op x.op Tx.op0 hd rfl
  rw [h1] at hne
  have HNE := Lib.hid hne
  have HC := Lib.hid hc
  clear hd hk hne h1 hc
  go_enter Tryd.func16, Tryd.ntmps16
  go_upto_region 2 with (first
    | ((with_reducible show wpList _ _ _ ({ dst := _, op := Op.alloc 35, type := _, pos := _, after := _, guard := _ } :: _) _ _); refine wpList_alloc rfl 35 rfl _ (run_alloc35' _ _) ?_)
    | ((with_reducible show wpList _ _ _ ({ dst := _, op := Op.store 35 _ _, type := _, pos := _, after := _, guard := _ } :: _) _ _); refine M.wpList_store_row rfl 35 _ _ rfl (w.heap.size + 1) rfl 35 Z37 Z37 rfl HZ0.out info35 rfl one_Z37 ?_))
  clear HZ0
  generalize ((w.alloc (.cells (stepCells x kv).toArray 41)).alloc (.cells Z37 35)).setRow (w.heap.size + 1) Z37 = W at *
  have c2 := HL.out.crash
  rw [HC.out] at c2
  go_wp2_with (first
    | ((with_reducible show wpList _ _ _ ({ dst := _, op := Op.load 35 _, type := _, pos := _, after := _, guard := _ } :: _) _ _); first
        | (refine wpList_load_mid rfl 35 _ rfl w.heap.size 0 rfl (opCells x.op) _ HL.out.range Tryd.underlying35 rfl (info35.trans (by rw [opCells_len HD.out])) ?_)
        | (refine wpList_load_row rfl 35 _ rfl (w.heap.size + 1) rfl 35 (opCells Tx.op0).toArray (0, 0) _ HL.out.zero Tryd.underlying35 rfl info35 ?_))
    | ((with_reducible show wpList _ _ _ ({ dst := _, op := Op.binOp .neq 35 _ _ _, type := _, pos := _, after := _, guard := _ } :: _) _ _); refine wpList_binop rfl .neq 35 35 _ _ rfl (.agg (opCells x.op).toArray) (.agg (opCells Tx.op0).toArray) _ rfl rfl (run_eqGuard_agg _ _ _ _ _ _ _ guard35) (HNE.out _) ?_))
  go_ret2
  show RLineP (Tx.refLine x) _ _ _
  rw [HF.out]
  exact ⟨HL.out.below, _, rfl⟩

end Go.Proofs.YtjjlmhlfobmpgaaDoor
