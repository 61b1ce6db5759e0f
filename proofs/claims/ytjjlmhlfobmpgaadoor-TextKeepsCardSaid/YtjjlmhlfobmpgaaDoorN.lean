/-
Walks: text.step.
-/
import Derived.Test.YtjjlmhlfobmpgaaDoorK2
import Derived.Test.YtjjlmhlfobmpgaaDoorTw
namespace Go.Proofs.YtjjlmhlfobmpgaaDoor
open Go.RowKit

def Z69 (s : Tx.Bytes) : Obj := .cells ((Tx.splitS s).map str).toArray 9

/-- strings.Split at a space. -/
theorem split_any (s : Tx.Bytes) (w : World) (hs : s.length ≤ 1000000) (L : Ld w) :
    Calls Tryd.prog 31 #[.string ⟨s.toArray⟩, .string ⟨#[32]⟩] w fun e w' => e = .returned (.slice (some ⟨w.heap.size, 0, none⟩) (Tx.splitS s).length (Tx.splitS s).length) ∧ w.alloc (Z69 s) = w' := by
  obtain ⟨m, hm⟩ := L.max
  have hsz : (⟨s.toArray⟩ : ByteArray).size = s.length := by simp [ByteArray.size]
  have h := Tryd.strings_Split ⟨s.toArray⟩ ⟨#[32]⟩ m w (by omega) hm (by decide)
  have he : (Lib.splitB ⟨#[32]⟩ 0 (Lib.countB ⟨s.toArray⟩ ⟨#[32]⟩) ⟨s.toArray⟩).map (·.data.toList) = Tx.splitS s := by
    rw [Lib.splitB_data, ← Tx.split_eq]
    rfl
  have hl : Lib.countB ⟨s.toArray⟩ ⟨#[32]⟩ + 1 = (Tx.splitS s).length := by
    rw [← he, List.length_map, Lib.splitB_all _ (by decide) _ _ _ rfl]
  rw [hl] at h
  refine h.mono fun e w' ⟨he1, hw⟩ => ⟨he1, ?_⟩
  rw [hw, Z69, ← he, List.map_map]
  rfl

theorem split_words (s : Tx.Bytes) (w : World) (hs : s.length ≤ 1000000) : WordsAt (w.alloc (Z69 s)) w.heap.size (Tx.splitS s) where
  at_ := fun j x hj => by
    rw [Z69, World.cell?_alloc_new]
    simp [hj]
  few := Nat.le_trans (Tx.splitS_len s) (by omega)
  short := fun x hx => Nat.le_trans (Tx.splitS_short s x hx) hs

def SplitP (l : List Tx.Bytes) (w : World) (e : Ending) (w' : World) : Prop := ∃ B, e = .returned (.slice (some ⟨B, 0, none⟩) l.length l.length) ∧ WordsAt w' B l ∧ w.heap.size ≤ B ∧ Below w.heap.size w w'

theorem split_p (s : Tx.Bytes) (l : List Tx.Bytes) (hl : Tx.splitS s = l) (w : World) (hs : s.length ≤ 1000000) (L : Ld w) :
    Calls Tryd.prog 31 #[.string ⟨s.toArray⟩, .string ⟨#[32]⟩] w (SplitP l w) := by
  subst hl
  exact (split_any s w hs L).mono fun e w' ⟨he, hw⟩ => ⟨_, he, hw ▸ split_words s w hs, Nat.le_refl _, hw ▸ below_new w _⟩

theorem one_step (x : Tx.StepV) (kv : Value) (h : kv.oneCell' = true) : (stepCells x kv).toArray.all (·.oneCell') = true := by
  refine Array.all_eq_true_iff_forall_mem.2 fun v hv => ?_
  simp only [stepCells, List.mem_toArray, List.mem_append, List.mem_cons, List.not_mem_nil, or_false] at hv
  rcases hv with hv | rfl | rfl | rfl | rfl | rfl
  · exact Array.all_eq_true_iff_forall_mem.1 (one_op x.op) v (by simpa using hv)
  · rfl
  · rfl
  · exact h
  · rfl
  · rfl

set_option maxHeartbeats 4000000 in
set_option maxRecDepth 100000 in
/-- A crash's line. -/
theorem step_crash (s : Tx.Bytes) (w : World) (hs : s.length ≤ 1000000) (L : Ld w) (hc : (Tx.splitS s).headD [] = Tx.crashW) :
    Calls Tryd.prog 20 #[.string ⟨s.toArray⟩] w (StepP (Tx.stepF s) w) := by
  obtain ⟨l0, r, hl⟩ : ∃ l0 r, Tx.splitS s = l0 :: r := by
    cases h : Tx.splitS s with
    | nil => exact absurd h (Tx.splitS_ne s)
    | cons a b => exact ⟨a, b, rfl⟩
  rw [hl] at hc
  have hc' : l0 = Tx.crashW := hc
  subst hc'
  have HF : Hid (Tx.stepF s = Tx.crashF (Tx.crashW :: r)) := Lib.hid (by unfold Tx.stepF Tx.stepL; rw [hl]; rfl)
  have HSp := Lib.hid (split_p s _ hl (w.alloc (.cells Z42 41)) hs (L.alloc _))
  have hb0 : Below w.heap.size w (w.alloc (.cells Z42 41)) := below_new _ _
  have HB0 := Lib.hid hb0
  have H0 : Hid ((w.alloc (.cells Z42 41)).heap[w.heap.size]? = some (.cells Z42 41 (0, 0))) := Lib.hid (heap_alloc_new w _)
  clear hc hl hb0
  go_enter Tryd.func20, Tryd.ntmps20
  go_wp2_with fail
  go_at_call 31
  refine HSp.out.mono ?_
  rintro e w1 ⟨B, rfl, hW, hBn, hb1⟩
  have hc0 : w1.cell? ⟨B, 0, none⟩ = some (.string ⟨#[99, 114, 97, 115, 104]⟩) := hW.at_ 0 Tx.crashW rfl
  have HB1 := Lib.hid (HB0.out.trans (hb1.mono HB0.out.size))
  have H1 := Lib.hid ((hb1.block _ (block_lt_of_heap H0.out)).trans H0.out)
  have HW := Lib.hid hW
  clear hW hb1
  go_wp2_with fail
  go_at_call 32
  refine (crash_any B (Tx.crashW :: r) w1 HW.out (L.below HB1.out)).mono ?_
  intro e w2 hP
  cases hcf : Tx.crashF (Tx.crashW :: r) with
  | none =>
    rw [hcf] at hP
    obtain ⟨cs, hcs, hone, rfl, hb2⟩ := hP
    have HCS := Lib.hid hcs
    have HON := Lib.hid hone
    have H2 := Lib.hid ((hb2.block _ (block_lt_of_heap H1.out)).trans H1.out)
    have HB2 := Lib.hid (HB1.out.trans (hb2.mono HB1.out.size))
    have HCF := Lib.hid hcf
    clear hcf hcs hone hb2 hc0
    go_wp2_with (refine M.wpList_store_row rfl 41 _ _ rfl w.heap.size rfl 41 Z42 cs rfl H2.out (info41.trans (congrArg some HCS.out.symm)) HCS.out.symm HON.out ?_)
    refine bodyPost_ret (M.results_cell_tmp rfl _ _ w.heap.size 41 cs (0, 0) _ rfl (M.heap_setRow_same _ _ _ _ _ H2.out) Tryd.underlying41 rfl (info41.trans (congrArg some HCS.out.symm))) rfl ?_
    show StepP (Tx.stepF s) _ _ _
    rw [HF.out, HCF.out]
    exact ⟨cs, HCS.out, HON.out, rfl, M.below_setRow HB2.out (Nat.le_refl _) _⟩
  | some x =>
    rw [hcf] at hP
    obtain ⟨kv, rfl, hown, hb2⟩ := hP
    have hdl : x.op.data.length = 32 := by
      have : x.op = Tx.op0 := Tx.crash_op hcf
      rw [this]; rfl
    have HSZ : Hid (some 42 = some (stepCells x kv).toArray.size) := Lib.hid (by simp [stepCells, opCells, hdl])
    have hkz := (hown.lt · ·)
    have H2 := Lib.hid ((hb2.block _ (block_lt_of_heap H1.out)).trans H1.out)
    have HB2 := Lib.hid (HB1.out.trans (hb2.mono HB1.out.size))
    have HON := Lib.hid (one_step x kv (one_own hown))
    have HOW := Lib.hid hown
    have hw1 := block_lt_of_heap H1.out
    have HCF := Lib.hid hcf
    clear hcf hown hb2 hc0 hkz hdl
    go_wp2_with (refine M.wpList_store_row rfl 41 _ _ rfl w.heap.size rfl 41 Z42 (stepCells x kv).toArray rfl H2.out (info41.trans HSZ.out) (Option.some.inj HSZ.out) HON.out ?_)
    refine bodyPost_ret (M.results_cell_tmp rfl _ _ w.heap.size 41 (stepCells x kv).toArray (0, 0) _ rfl (M.heap_setRow_same _ _ _ _ _ H2.out) Tryd.underlying41 rfl (info41.trans HSZ.out)) rfl ?_
    show StepP (Tx.stepF s) _ _ _
    rw [HF.out, HCF.out]
    refine ⟨kv, rfl, ?_, M.below_setRow HB2.out (Nat.le_refl _) _⟩
    exact own_setRow (M.own_base HOW.out (by omega)) (fun e => by have := (HOW.out.lt _ e).1; omega) _

end Go.Proofs.YtjjlmhlfobmpgaaDoor
