/-
Walks: text.step, an operation.
-/
import Derived.Test.YtjjlmhlfobmpgaaDoorN2
namespace Go.Proofs.YtjjlmhlfobmpgaaDoor
open Go.RowKit

theorem fold_put : ∀ (l : List Value) (k : Nat) (cs : Array Value), k + l.length ≤ cs.size →
    List.foldl (fun (cs : Array Value) (x : Value × Nat) => cs.setIfInBounds x.snd x.fst) cs (l.zipIdx k) = (cs.toList.take k ++ l ++ cs.toList.drop (k + l.length)).toArray
  | [], k, cs, _ => by simp
  | v :: l, k, cs, h => by
    simp only [List.zipIdx_cons, List.foldl_cons]
    have hk : k < cs.size := by simp at h; omega
    rw [fold_put l (k + 1) (cs.setIfInBounds k v) (by simp at h ⊢; omega)]
    apply Array.ext'
    simp only [List.append_assoc, Array.toList_setIfInBounds]
    have h1 : (cs.toList.set k v).take (k + 1) = cs.toList.take k ++ [v] := by
      rw [List.take_add_one, List.take_set_of_le (Nat.le_refl _)]
      simp [hk]
    have h2 : (cs.toList.set k v).drop (k + 1 + l.length) = cs.toList.drop (k + (v :: l).length) := by
      rw [List.drop_set_of_lt (by omega)]
      congr 1
      simp; omega
    rw [h1, h2]
    simp

theorem op_build (x : Tx.OpV) (h : (opCells x).length = 37) :
    List.foldl (fun (cs : Array Value) (x : Value × Nat) => cs.setIfInBounds x.snd x.fst)
      #[.int .i64 0, .int .i64 0, .int .i64 0, .int .u8 0, .int .u8 0, .int .u8 0, .int .u8 0, .int .u8 0, .int .u8 0, .int .u8 0, .int .u8 0, .int .u8 0, .int .u8 0, .int .u8 0, .int .u8 0, .int .u8 0, .int .u8 0, .int .u8 0, .int .u8 0, .int .u8 0, .int .u8 0, .int .u8 0, .int .u8 0, .int .u8 0, .int .u8 0, .int .u8 0, .int .u8 0, .int .u8 0, .int .u8 0, .int .u8 0, .int .u8 0, .int .u8 0, .int .u8 0, .int .u8 0, .int .u8 0, .bool false, .int .i64 0, .int .i64 0, .bool false, .slice none 0 0, .int .u64 0, .int .i64 0] (opCells x).zipIdx = (stepCells { Tx.step0 with op := x } (.slice none 0 0)).toArray := by
  rw [fold_put _ 0 _ (by rw [h]; decide)]
  rw [Nat.zero_add, h]
  rfl

theorem op_data {l : List Tx.Bytes} {x : Tx.OpV} (h : Tx.operationF l = some x) : x.data.length = 32 := by
  unfold Tx.operationF at h
  split at h
  · exact args_len _ _ _ _ h rfl
  · cases h

set_option maxHeartbeats 4000000 in
set_option maxRecDepth 100000 in
/-- An operation's line. -/
theorem step_oper (s : Tx.Bytes) (l0 : Tx.Bytes) (r : List Tx.Bytes) (w : World) (hs : s.length ≤ 1000000) (L : Ld w) (hl : Tx.splitS s = l0 :: r) (h1 : l0 ≠ Tx.crashW) (h2 : l0 ≠ Tx.armW) :
    Calls Tryd.prog 20 #[.string ⟨s.toArray⟩] w (StepP (Tx.stepF s) w) := by
  have HF : Hid (Tx.stepF s = (Tx.operationF (l0 :: r)).map fun o => { Tx.step0 with op := o }) := Lib.hid (by
    unfold Tx.stepF Tx.stepL
    rw [hl]
    rw [if_neg (show ¬ (l0 :: r).headD [] = Tx.crashW from h1), if_neg (show ¬ (l0 :: r).headD [] = Tx.armW from h2)])
  have HSp := Lib.hid (split_p s _ hl (w.alloc (.cells Z42 41)) hs (L.alloc _))
  have hb0 : Below w.heap.size w (w.alloc (.cells Z42 41)) := below_new _ _
  have HB0 := Lib.hid hb0
  have H0 : Hid ((w.alloc (.cells Z42 41)).heap[w.heap.size]? = some (.cells Z42 41 (0, 0))) := Lib.hid (heap_alloc_new w _)
  have hn1 : (l0 == [99, 114, 97, 115, 104]) = false := by simpa [Tx.crashW] using h1
  have hn2 : (l0 == [97, 114, 109]) = false := by simpa [Tx.armW] using h2
  clear hl hb0 h1 h2
  go_enter Tryd.func20, Tryd.ntmps20
  go_wp2_with fail
  go_at_call 31
  refine HSp.out.mono ?_
  rintro e w1 ⟨B, rfl, hW, hBn, hb1⟩
  have hc0 : w1.cell? ⟨B, 0, none⟩ = some (.string ⟨l0.toArray⟩) := hW.at_ 0 l0 rfl
  have HB1 := Lib.hid (HB0.out.trans (hb1.mono HB0.out.size))
  have H1 := Lib.hid ((hb1.block _ (block_lt_of_heap H0.out)).trans H0.out)
  have HW := Lib.hid hW
  clear hW hb1
  go_wp2_with fail
  go_at_call 34
  refine (operation_any B (l0 :: r) w1 HW.out (by simp) (L.below HB1.out)).mono ?_
  rintro e w2 ⟨hb2, hP⟩
  have hP2 : match Tx.operationF (l0 :: r) with
    | some x => e = .returned (.tuple #[.agg (opCells x).toArray, .bool true])
    | none => e = .returned (.tuple #[.agg (opCells Tx.op0).toArray, .bool false]) := hP
  clear hP
  have H2 := Lib.hid ((hb2.block _ (block_lt_of_heap H1.out)).trans H1.out)
  have HB2 := Lib.hid (HB1.out.trans (hb2.mono HB1.out.size))
  clear hb2 hc0 hn1 hn2
  cases hcf : Tx.operationF (l0 :: r) with
  | none =>
    rw [hcf] at hP2
    subst hP2
    have HCF := Lib.hid hcf
    clear hcf
    have hdl : (opCells Tx.op0).toArray.size = 37 := rfl
    have HDL := Lib.hid hdl
    have HN : Hid ((w2.alloc (.cells Z37 35)).heap[w2.heap.size]? = some (.cells Z37 35 (0, 0))) := Lib.hid (heap_alloc_new _ _)
    have HN2 := Lib.hid (M.heap_setRow_same _ _ _ (opCells Tx.op0).toArray _ HN.out)
    have hdl2 : (opCells Tx.op0).length = 37 := by simpa using hdl
    have hbuild := op_build Tx.op0 hdl2
    have HON : Hid ((stepCells { Tx.step0 with op := Tx.op0 } (.slice none 0 0)).toArray.all (·.oneCell') = true) := Lib.hid (one_step _ _ rfl)
    have HSZ : Hid ((stepCells { Tx.step0 with op := Tx.op0 } (.slice none 0 0)).toArray.size = 42) := Lib.hid (by simp [stepCells, hdl2])
    have HRES : Hid (∀ c, ((w2.alloc (.cells Z37 35)).setRow w2.heap.size c).heap[w.heap.size]? = some (.cells Z42 41 (0, 0))) := Lib.hid (fun c => by
      have := block_lt_of_heap H2.out
      rw [M.heap_setRow_other _ _ _ _ (by omega), M.heap_alloc_if, if_neg (by omega)]; exact H2.out)
    clear hdl
    go_wp2_with (first
      | (refine M.wpList_store_row rfl 35 _ _ rfl w2.heap.size rfl 35 Z37 (opCells Tx.op0).toArray rfl HN.out (info35.trans (congrArg some HDL.out.symm)) HDL.out.symm (one_op _) ?_)
      | (refine wpList_load_row rfl 35 _ rfl w2.heap.size rfl 35 (opCells Tx.op0).toArray (0, 0) _ HN2.out Tryd.underlying35 rfl (info35.trans (congrArg some HDL.out.symm)) ?_)
      | (refine M.wpList_store_row rfl 41 _ _ rfl w.heap.size rfl 41 Z42 (stepCells { Tx.step0 with op := Tx.op0 } (.slice none 0 0)).toArray rfl (HRES.out _) (info41.trans (congrArg some HSZ.out.symm)) HSZ.out.symm HON.out ?_))
    refine bodyPost_ret (M.results_cell_tmp rfl _ _ w.heap.size 41 (stepCells { Tx.step0 with op := Tx.op0 } (.slice none 0 0)).toArray (0, 0) _ rfl (M.heap_setRow_same _ _ _ _ _ (HRES.out _)) Tryd.underlying41 rfl (info41.trans (congrArg some HSZ.out.symm))) rfl ?_
    show StepP (Tx.stepF s) _ _ _
    rw [HF.out, HCF.out]
    have hlt := block_lt_of_heap H2.out
    exact ⟨_, HSZ.out, HON.out, rfl, M.below_setRow (M.below_setRow (HB2.out.alloc (by omega) _) (by omega) _) (Nat.le_refl _) _⟩
  | some x =>
    rw [hcf] at hP2
    subst hP2
    have HCF := Lib.hid hcf
    clear hcf
    have hdl : (opCells x).toArray.size = 37 := by simp [opCells_len (op_data HCF.out)]
    have HDL := Lib.hid hdl
    have HN : Hid ((w2.alloc (.cells Z37 35)).heap[w2.heap.size]? = some (.cells Z37 35 (0, 0))) := Lib.hid (heap_alloc_new _ _)
    have HN2 := Lib.hid (M.heap_setRow_same _ _ _ (opCells x).toArray _ HN.out)
    have hdl2 : (opCells x).length = 37 := by simpa using hdl
    have hbuild := op_build x hdl2
    have HON : Hid ((stepCells { Tx.step0 with op := x } (.slice none 0 0)).toArray.all (·.oneCell') = true) := Lib.hid (one_step _ _ rfl)
    have HSZ : Hid ((stepCells { Tx.step0 with op := x } (.slice none 0 0)).toArray.size = 42) := Lib.hid (by simp [stepCells, hdl2])
    have HRES : Hid (∀ c, ((w2.alloc (.cells Z37 35)).setRow w2.heap.size c).heap[w.heap.size]? = some (.cells Z42 41 (0, 0))) := Lib.hid (fun c => by
      have := block_lt_of_heap H2.out
      rw [M.heap_setRow_other _ _ _ _ (by omega), M.heap_alloc_if, if_neg (by omega)]; exact H2.out)
    clear hdl
    go_wp2_with (first
      | (refine M.wpList_store_row rfl 35 _ _ rfl w2.heap.size rfl 35 Z37 (opCells x).toArray rfl HN.out (info35.trans (congrArg some HDL.out.symm)) HDL.out.symm (one_op _) ?_)
      | (refine wpList_load_row rfl 35 _ rfl w2.heap.size rfl 35 (opCells x).toArray (0, 0) _ HN2.out Tryd.underlying35 rfl (info35.trans (congrArg some HDL.out.symm)) ?_)
      | (refine M.wpList_store_row rfl 41 _ _ rfl w.heap.size rfl 41 Z42 (stepCells { Tx.step0 with op := x } (.slice none 0 0)).toArray rfl (HRES.out _) (info41.trans (congrArg some HSZ.out.symm)) HSZ.out.symm HON.out ?_))
    refine bodyPost_ret (M.results_cell_tmp rfl _ _ w.heap.size 41 (stepCells { Tx.step0 with op := x } (.slice none 0 0)).toArray (0, 0) _ rfl (M.heap_setRow_same _ _ _ _ _ (HRES.out _)) Tryd.underlying41 rfl (info41.trans (congrArg some HSZ.out.symm))) rfl ?_
    show StepP (Tx.stepF s) _ _ _
    rw [HF.out, HCF.out]
    have hlt := block_lt_of_heap H2.out
    exact ⟨.slice none 0 0, rfl, World.ownsRow_nil _ _ _ _, M.below_setRow (M.below_setRow (HB2.out.alloc (by omega) _) (by omega) _) (Nat.le_refl _) _⟩

/-- What text.step answers. -/
theorem step_any (s : Tx.Bytes) (w : World) (hs : s.length ≤ 1000000) (L : Ld w) : Calls Tryd.prog 20 #[.string ⟨s.toArray⟩] w (StepP (Tx.stepF s) w) := by
  obtain ⟨l0, r, hl⟩ : ∃ l0 r, Tx.splitS s = l0 :: r := by
    cases h : Tx.splitS s with
    | nil => exact absurd h (Tx.splitS_ne s)
    | cons a b => exact ⟨a, b, rfl⟩
  by_cases h1 : l0 = Tx.crashW
  · exact step_crash s w hs L (by rw [hl]; exact h1)
  · by_cases h2 : l0 = Tx.armW
    · subst h2
      match r, hl with
      | [], hl => exact step_arm1 s [] w hs L hl (by simp)
      | [f], hl => exact step_arm2 s f w hs L hl
      | a :: b :: c, hl => exact step_arm1 s (a :: b :: c) w hs L hl (by simp)
    · exact step_oper s l0 r w hs L hl h1 h2

end Go.Proofs.YtjjlmhlfobmpgaaDoor
