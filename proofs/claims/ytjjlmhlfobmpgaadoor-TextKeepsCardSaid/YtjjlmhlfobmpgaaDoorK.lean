/-
Walks: text.operation.
-/
import Derived.Test.YtjjlmhlfobmpgaaDoorJ2
import Derived.Test.YtjjlmhlfobmpgaaDoorF2
import Derived.Laws.CopyRow
namespace Go.Proofs.YtjjlmhlfobmpgaaDoor
open Go.RowKit

section
variable {P : Program}
theorem run_storeVar_midrow (w : World) (g o : Nat) (t ty : TypeId) (cur cells : Array Value) (hg : w.heap[g]? = some (.cells cur t (0, 0))) (hi : (P.info? ty).map (·.size) = some cells.size)
    (hs : o + cells.size ≤ cur.size) (h1 : cells.all (·.oneCell') = true) :
    (storeVar ty ⟨g, o, none⟩ (.agg cells)).run P w = .ok () (w.setRow g (cur.toList.take o ++ cells.toList ++ cur.toList.drop (o + cells.size)).toArray) := by
  have := run_storeCells_at (P := P) g o t cells.toList 0 cur w hg (by simpa using hs) (fun v hv => (Array.all_eq_true_iff_forall_mem.1 h1) v (by simpa using hv))
  cases hq : P.info? ty with
  | none => simp [hq] at hi
  | some i =>
    have hsz : cells.size = i.size := by simp [hq] at hi; omega
    simp only [Nat.add_zero] at this
    simp [storeVar, sizeOf, typeInfo, hq, Value.cells, hsz, this]

/-- A value of many cells into the middle of a block. -/
theorem wpList_store_midrow {ops : Array Oper} {rest : List Oper} {op : Oper} {a : Act} {w : World} {Q : Exit → Act → World → Prop} (hgd : op.guard = none) (ty : TypeId) (x y : Operand) (ho : op.op = .store ty x y)
    (g o : Nat) (hx : a.eval x = .pointer (some ⟨g, o, none⟩)) (t : TypeId) (cur cells : Array Value) (hy : a.eval y = .agg cells) (hg : w.heap[g]? = some (.cells cur t (0, 0)))
    (hi : (P.info? ty).map (·.size) = some cells.size) (hs : o + cells.size ≤ cur.size) (h1 : cells.all (·.oneCell') = true)
    (h : wpList P ops Q rest (a.put op.dst undef) (w.setRow g (cur.toList.take o ++ cells.toList ++ cur.toList.drop (o + cells.size)).toArray)) : wpList P ops Q (op :: rest) a w :=
  wpList_plain hgd fun _ hK => by
    unfold Oper.wp execOp
    simp only [ho, hx, hy, Instr.storeAt, Instr.sureAddr, Sem.run_bind, Sem.run_pure, Result.andThen_ok, run_storeVar_midrow w g o t ty cur cells hg hi hs h1]
    exact hK _ _ h
end

def OpP (o : Option Tx.OpV) (w : World) (e : Ending) (w' : World) : Prop :=
  Below w.heap.size w w' ∧ match o with
  | some x => e = .returned (.tuple #[.agg (opCells x).toArray, .bool true])
  | none => e = .returned (.tuple #[.agg (opCells Tx.op0).toArray, .bool false])

def Z37 : Array Value := #[.int .i64 0, .int .i64 0, .int .i64 0, .int .u8 0, .int .u8 0, .int .u8 0, .int .u8 0, .int .u8 0, .int .u8 0, .int .u8 0, .int .u8 0, .int .u8 0, .int .u8 0, .int .u8 0, .int .u8 0, .int .u8 0, .int .u8 0, .int .u8 0, .int .u8 0, .int .u8 0, .int .u8 0, .int .u8 0, .int .u8 0, .int .u8 0, .int .u8 0, .int .u8 0, .int .u8 0, .int .u8 0, .int .u8 0, .int .u8 0, .int .u8 0, .int .u8 0, .int .u8 0, .int .u8 0, .int .u8 0, .bool false, .int .i64 0]
theorem one_Z37 : Z37.all (·.oneCell') = true := by kernel_rfl
def O37 (kd : Int) (sy : Bool) : Array Value := #[.int .i64 kd, .int .i64 0, .int .i64 0, .int .u8 0, .int .u8 0, .int .u8 0, .int .u8 0, .int .u8 0, .int .u8 0, .int .u8 0, .int .u8 0, .int .u8 0, .int .u8 0, .int .u8 0, .int .u8 0, .int .u8 0, .int .u8 0, .int .u8 0, .int .u8 0, .int .u8 0, .int .u8 0, .int .u8 0, .int .u8 0, .int .u8 0, .int .u8 0, .int .u8 0, .int .u8 0, .int .u8 0, .int .u8 0, .int .u8 0, .int .u8 0, .int .u8 0, .int .u8 0, .int .u8 0, .int .u8 0, .bool sy, .int .i64 0]
theorem one_O37 (kd : Int) (sy : Bool) : (O37 kd sy).all (·.oneCell') = true := by
  simp [O37]
  simp [Value.oneCell']
theorem O37_op (kd : Int) (sy : Bool) : O37 kd sy = (opCells { Tx.op0 with kind := kd, sync := sy }).toArray := by rfl

theorem args_len : ∀ (t : Tx.Bytes) (r : List Tx.Bytes) (o o' : Tx.OpV), Tx.argsF o t r = some o' → o.data.length = 32 → o'.data.length = 32
  | [], _, o, o', h, hd => by simp [Tx.argsF] at h; subst h; exact hd
  | _ :: _, [], o, o', h, hd => by simp [Tx.argsF] at h; subst h; exact hd
  | c :: t, f :: r, o, o', h, hd => by
    simp only [Tx.argsF] at h
    split at h
    · rename_i o1 ho1
      refine args_len t r o1 o' h ?_
      unfold Tx.argF at ho1
      split at ho1
      · cases hn : Tx.numV f with
        | none => simp [hn] at ho1
        | some n => simp [hn] at ho1; subst ho1; exact hd
      · split at ho1
        · cases hn : Tx.numV f with
          | none => simp [hn] at ho1
          | some n => simp [hn] at ho1; subst ho1; exact hd
        · split at ho1
          · cases hn : Tx.numV f with
            | none => simp [hn] at ho1
            | some n => simp [hn] at ho1; subst ho1; exact hd
          · cases hn : Tx.dataF f with
            | none => simp [hn] at ho1
            | some n => simp [hn] at ho1; subst ho1; exact (Tx.data_some hn).2
    · cases h

theorem args_snoc : ∀ (t : Tx.Bytes) (r : List Tx.Bytes) (o o1 : Tx.OpV) (c : UInt8) (f : Tx.Bytes), t.length = r.length → Tx.argsF o t r = some o1 → Tx.argsF o (t ++ [c]) (r ++ [f]) = Tx.argF o1 c f
  | [], [], o, o1, c, f, _, h => by
    simp [Tx.argsF] at h
    subst h
    simp only [List.nil_append, Tx.argsF]
    cases Tx.argF o c f <;> rfl
  | a :: t, x :: r, o, o1, c, f, hl, h => by
    simp only [List.cons_append, Tx.argsF] at h ⊢
    split at h
    · rename_i o2 ho2
      simp [args_snoc t r o2 o1 c f (by simpa using hl) h]
    · cases h
  | [], _ :: _, _, _, _, _, hl, _ => by simp at hl
  | _ :: _, [], _, _, _, _, hl, _ => by simp at hl

theorem args_no : ∀ (t : Tx.Bytes) (r : List Tx.Bytes) (o o1 : Tx.OpV) (c : UInt8) (f : Tx.Bytes) (t2 : Tx.Bytes) (r2 : List Tx.Bytes), t.length = r.length → Tx.argsF o t r = some o1 → Tx.argF o1 c f = none → Tx.argsF o (t ++ c :: t2) (r ++ f :: r2) = none
  | [], [], o, o1, c, f, t2, r2, _, h, hn => by
    simp [Tx.argsF] at h
    subst h
    simp [Tx.argsF, hn]
  | a :: t, x :: r, o, o1, c, f, t2, r2, hl, h, hn => by
    simp only [List.cons_append, Tx.argsF] at h ⊢
    split at h
    · rename_i o2 ho2
      simp [args_no t r o2 o1 c f t2 r2 (by simpa using hl) h hn]
    · cases h
  | [], _ :: _, _, _, _, _, _, _, hl, _, _ => by simp at hl
  | _ :: _, [], _, _, _, _, _, _, hl, _, _ => by simp at hl

end Go.Proofs.YtjjlmhlfobmpgaaDoor
