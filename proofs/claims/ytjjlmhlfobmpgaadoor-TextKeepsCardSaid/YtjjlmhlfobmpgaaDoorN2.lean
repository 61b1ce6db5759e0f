/-
Walks: text.step, an arm and an operation.
-/
import Derived.Test.YtjjlmhlfobmpgaaDoorN
namespace Go.Proofs.YtjjlmhlfobmpgaaDoor
open Go.RowKit

def A42 (n : Int) : Array Value := #[.int .i64 0, .int .i64 0, .int .i64 0, .int .u8 0, .int .u8 0, .int .u8 0, .int .u8 0, .int .u8 0, .int .u8 0, .int .u8 0, .int .u8 0, .int .u8 0, .int .u8 0, .int .u8 0, .int .u8 0, .int .u8 0, .int .u8 0, .int .u8 0, .int .u8 0, .int .u8 0, .int .u8 0, .int .u8 0, .int .u8 0, .int .u8 0, .int .u8 0, .int .u8 0, .int .u8 0, .int .u8 0, .int .u8 0, .int .u8 0, .int .u8 0, .int .u8 0, .int .u8 0, .int .u8 0, .int .u8 0, .bool false, .int .i64 0, .int .i64 n, .bool false, .slice none 0 0, .int .u64 0, .int .i64 0]
theorem one_A42 (n : Int) : (A42 n).all (·.oneCell') = true := by
  simp [A42]
  simp [Value.oneCell']
theorem A42_step (n : Int) : A42 n = (stepCells { Tx.step0 with arm := n } (.slice none 0 0)).toArray := by rfl

set_option maxHeartbeats 4000000 in
set_option maxRecDepth 100000 in
/-- An arm's line that is none by its words' number. -/
theorem step_arm1 (s : Tx.Bytes) (r : List Tx.Bytes) (w : World) (hs : s.length ≤ 1000000) (L : Ld w) (hl : Tx.splitS s = Tx.armW :: r) (hr : r.length ≠ 1) :
    Calls Tryd.prog 20 #[.string ⟨s.toArray⟩] w (StepP (Tx.stepF s) w) := by
  have HF : Hid (Tx.stepF s = none) := Lib.hid (by
    unfold Tx.stepF Tx.stepL
    rw [hl]
    rw [if_neg (show ¬ (Tx.armW :: r).headD [] = Tx.crashW from by simp [Tx.armW, Tx.crashW]), if_pos (show (Tx.armW :: r).headD [] = Tx.armW from rfl)]
    unfold Tx.armF
    match r, hr with
    | [], _ => rfl
    | [_], h => exact absurd rfl h
    | _ :: _ :: _, _ => rfl)
  have HSp := Lib.hid (split_p s _ hl (w.alloc (.cells Z42 41)) hs (L.alloc _))
  have hb0 : Below w.heap.size w (w.alloc (.cells Z42 41)) := below_new _ _
  have HB0 := Lib.hid hb0
  have H0 : Hid ((w.alloc (.cells Z42 41)).heap[w.heap.size]? = some (.cells Z42 41 (0, 0))) := Lib.hid (heap_alloc_new w _)
  have hne : (((r.length : Int) + 1) != 2) = true := by simp; omega
  clear hl hb0 hr
  go_enter Tryd.func20, Tryd.ntmps20
  go_wp2_with fail
  go_at_call 31
  refine HSp.out.mono ?_
  rintro e w1 ⟨B, rfl, hW, hBn, hb1⟩
  have hc0 : w1.cell? ⟨B, 0, none⟩ = some (.string ⟨#[97, 114, 109]⟩) := hW.at_ 0 Tx.armW rfl
  have HB1 := Lib.hid (HB0.out.trans (hb1.mono HB0.out.size))
  have H1 := Lib.hid ((hb1.block _ (block_lt_of_heap H0.out)).trans H0.out)
  have HW := Lib.hid hW
  clear hW hb1
  go_wp2_with (refine M.wpList_store_row rfl 41 _ _ rfl w.heap.size rfl 41 Z42 Z42 rfl H1.out info41 rfl one_Z42 ?_)
  refine bodyPost_ret (M.results_cell_tmp rfl _ _ w.heap.size 41 Z42 (0, 0) _ rfl (M.heap_setRow_same _ _ _ _ _ H1.out) Tryd.underlying41 rfl info41) rfl ?_
  show StepP (Tx.stepF s) _ _ _
  rw [HF.out]
  exact ⟨Z42, rfl, one_Z42, rfl, M.below_setRow HB1.out (Nat.le_refl _) _⟩

set_option maxHeartbeats 4000000 in
set_option maxRecDepth 100000 in
/-- An arm's line. -/
theorem step_arm2 (s : Tx.Bytes) (f : Tx.Bytes) (w : World) (hs : s.length ≤ 1000000) (L : Ld w) (hl : Tx.splitS s = [Tx.armW, f]) :
    Calls Tryd.prog 20 #[.string ⟨s.toArray⟩] w (StepP (Tx.stepF s) w) := by
  have HF : Hid (Tx.stepF s = match Tx.numV f with | some n => if 0 < n then some { Tx.step0 with arm := n } else none | none => none) := Lib.hid (by
    unfold Tx.stepF Tx.stepL
    rw [hl]
    rw [if_neg (show ¬ [Tx.armW, f].headD [] = Tx.crashW from by simp [Tx.armW, Tx.crashW]), if_pos (show [Tx.armW, f].headD [] = Tx.armW from rfl)]
    rfl)
  have HSp := Lib.hid (split_p s _ hl (w.alloc (.cells Z42 41)) hs (L.alloc _))
  have hb0 : Below w.heap.size w (w.alloc (.cells Z42 41)) := below_new _ _
  have HB0 := Lib.hid hb0
  have H0 : Hid ((w.alloc (.cells Z42 41)).heap[w.heap.size]? = some (.cells Z42 41 (0, 0))) := Lib.hid (heap_alloc_new w _)
  clear hl hb0
  go_enter Tryd.func20, Tryd.ntmps20
  go_wp2_with fail
  go_at_call 31
  refine HSp.out.mono ?_
  rintro e w1 ⟨B, rfl, hW, hBn, hb1⟩
  have hc0 : w1.cell? ⟨B, 0, none⟩ = some (.string ⟨#[97, 114, 109]⟩) := hW.at_ 0 Tx.armW rfl
  have hc1 : w1.cell? ⟨B, 1, none⟩ = some (.string ⟨f.toArray⟩) := hW.at_ 1 f rfl
  have HB1 := Lib.hid (HB0.out.trans (hb1.mono HB0.out.size))
  have H1 := Lib.hid ((hb1.block _ (block_lt_of_heap H0.out)).trans H0.out)
  have HW := Lib.hid hW
  have L1 := L.below HB1.out
  clear hW hb1
  go_wp2_with fail
  go_at_call 33
  have hsz := str_size HW.out (x := f) (by simp)
  cases hn : Tx.numV f with
  | none =>
    have HN := Lib.hid hn
    clear hn
    refine (number_no ⟨f.toArray⟩ w1 hsz (by simpa using HN.out) L1).mono ?_
    rintro e w2 ⟨v, rfl, hb2⟩
    have H2 := Lib.hid ((hb2.block _ (block_lt_of_heap H1.out)).trans H1.out)
    have HB2 := Lib.hid (HB1.out.trans (hb2.mono HB1.out.size))
    clear hc0 hc1 hb2
    go_wp2_with (refine M.wpList_store_row rfl 41 _ _ rfl w.heap.size rfl 41 Z42 (A42 v) rfl H2.out info41 rfl (one_A42 v) ?_)
    refine bodyPost_ret (M.results_cell_tmp rfl _ _ w.heap.size 41 (A42 v) (0, 0) _ rfl (M.heap_setRow_same _ _ _ _ _ H2.out) Tryd.underlying41 rfl info41) rfl ?_
    show StepP (Tx.stepF s) _ _ _
    rw [HF.out, HN.out]
    exact ⟨A42 v, rfl, one_A42 v, rfl, M.below_setRow HB2.out (Nat.le_refl _) _⟩
  | some v =>
    have HN := Lib.hid hn
    clear hn
    refine (number_yes ⟨f.toArray⟩ v w1 hsz (by simpa using HN.out) L1).mono ?_
    rintro e w2 ⟨rfl, hb2⟩
    have H2 := Lib.hid ((hb2.block _ (block_lt_of_heap H1.out)).trans H1.out)
    have HB2 := Lib.hid (HB1.out.trans (hb2.mono HB1.out.size))
    clear hc0 hc1 hb2
    by_cases hv : 0 < v
    · go_wp2_with (refine M.wpList_store_row rfl 41 _ _ rfl w.heap.size rfl 41 Z42 (A42 v) rfl H2.out info41 rfl (one_A42 v) ?_)
      refine bodyPost_ret (M.results_cell_tmp rfl _ _ w.heap.size 41 (A42 v) (0, 0) _ rfl (M.heap_setRow_same _ _ _ _ _ H2.out) Tryd.underlying41 rfl info41) rfl ?_
      show StepP (Tx.stepF s) _ _ _
      rw [HF.out, HN.out]
      simp only [if_pos hv]
      exact ⟨.slice none 0 0, by rw [A42_step]; first | rfl | simp [hv], World.ownsRow_nil _ _ _ _, M.below_setRow HB2.out (Nat.le_refl _) _⟩
    · have hv' : v ≤ 0 := by omega
      go_wp2_with (refine M.wpList_store_row rfl 41 _ _ rfl w.heap.size rfl 41 Z42 (A42 v) rfl H2.out info41 rfl (one_A42 v) ?_)
      refine bodyPost_ret (M.results_cell_tmp rfl _ _ w.heap.size 41 (A42 v) (0, 0) _ rfl (M.heap_setRow_same _ _ _ _ _ H2.out) Tryd.underlying41 rfl info41) rfl ?_
      show StepP (Tx.stepF s) _ _ _
      rw [HF.out, HN.out]
      have hv2 : ¬ 0 < v := by omega
      simp only [if_neg hv2]
      exact ⟨A42 v, rfl, one_A42 v, by first | rfl | simp [hv2] | (simp; omega), M.below_setRow HB2.out (Nat.le_refl _) _⟩

end Go.Proofs.YtjjlmhlfobmpgaaDoor
