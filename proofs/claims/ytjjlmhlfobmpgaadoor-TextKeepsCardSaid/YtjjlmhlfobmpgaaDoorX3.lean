/-
Walks: windrowlaw25.TextPlains.
-/
import Derived.Test.YtjjlmhlfobmpgaaDoorX2
namespace Go.Proofs.YtjjlmhlfobmpgaaDoor
open Go.RowKit

/-- A slice of one step, made anew. -/
theorem one_steps {w : World} {x : Tx.StepV} {kv : Value} (hk : KeepR w kv x.keep) : StepsR (w.alloc (.cells (stepCells x kv).toArray 41)) (.slice (some ⟨w.heap.size, 0, none⟩) 1 1) [x] := by
  refine ⟨_, 1, rfl, fun _ => ⟨_, 0, rfl, fun k y hy => ?_⟩⟩
  cases k with
  | zero =>
    simp only [List.getElem?_cons_zero, Option.some.injEq] at hy
    subst hy
    refine ⟨kv, fun j v hj => ?_, hk.below (below_new _ _)⟩
    rw [cell_of_row _ _ _ _ _ _ (heap_alloc_new _ _)]
    simpa using hj
  | succ k => simp at hy

set_option maxHeartbeats 4000000 in
set_option maxRecDepth 100000 in
/-- TextPlains. -/
theorem plains_walk (x : Tx.StepV) (kv : Value) (w : World) (hk : KeepR w kv x.keep) (hw : StepWf x) (L : Ld w) :
    Calls Tryd.prog 5 #[.agg (stepCells x kv).toArray] w (LawP w) := by
  have H0 : Hid ((w.alloc (.cells (stepCells x kv).toArray 41)).heap[w.heap.size]? = some (.cells (stepCells x kv).toArray 41 (0, 0))) := Lib.hid (heap_alloc_new w _)
  have HB0 : Hid (Below w.heap.size w (w.alloc (.cells (stepCells x kv).toArray 41))) := Lib.hid (below_new _ _)
  have HSZ := Lib.hid (stepCells_len (kv := kv) hw.op.data)
  have hl42 : (stepCells x kv).length = 42 := by simpa using HSZ.out
  have hfold := step_build x kv hl42
  have HW := Lib.hid hw
  have HK := Lib.hid hk
  have L0 := L.below HB0.out
  clear hk hw
  go_enter Tryd.func5, Tryd.ntmps5
  go_wp2_with fail
  go_at_call 10
  refine (awake_any _ L0).mono ?_
  rintro e w1 ⟨rfl, hb1⟩
  have HB1 := Lib.hid (HB0.out.trans (hb1.mono HB0.out.size))
  have H1 := Lib.hid ((hb1.block _ (block_lt_of_heap H0.out)).trans H0.out)
  have L1 := L0.below hb1
  have HK1 := Lib.hid ((HK.out.below HB0.out).below hb1)
  clear hb1
  go_wp2_with ((with_reducible show wpList _ _ _ ({ dst := _, op := Op.load 41 _, type := _, pos := _, after := _, guard := _ } :: _) _ _); refine wpList_load_wanted rfl 41 _ rfl w.heap.size rfl 41 (stepCells x kv).toArray (0, 0) _ H1.out Tryd.underlying41 rfl (info41.trans (congrArg some HSZ.out.symm)) ?_)
  have hba := below_new w1 (.cells (stepCells x kv).toArray 41)
  have HS1 := Lib.hid (one_steps HK1.out)
  have HBA := Lib.hid (HB1.out.trans (hba.mono HB1.out.size))
  have LA := L1.below hba
  have H2 := Lib.hid ((hba.block _ (block_lt_of_heap H1.out)).trans H1.out)
  have HK2 := Lib.hid (HK1.out.below hba)
  have hwf : ∀ y ∈ [x], StepWf y := by simpa using HW.out
  clear hba
  generalize hW2 : w1.alloc (.cells (stepCells x kv).toArray 41) = w2 at *
  clear hW2
  refine (few_in _ [x] w2 HS1.out (by rw [reach_val]; simp) hwf).mono ?_
  rintro e w' ⟨rfl, rfl⟩
  cases hf : fewF [x] with
  | false =>
    go_wp2_with fail
    go_at_call 10
    refine (awake_any w2 LA).mono ?_
    rintro e w3 ⟨rfl, hb3⟩
    go_wp2
    go_ret
    exact ⟨rfl, HBA.out.trans (hb3.mono HBA.out.size)⟩
  | true =>
    have ho := (few_ok hwf hf).2 x (by simp)
    have HO := Lib.hid ho
    clear ho hwf hf
    go_wp2_with ((with_reducible show wpList _ _ _ ({ dst := _, op := Op.load 41 _, type := _, pos := _, after := _, guard := _ } :: _) _ _); refine wpList_load_wanted rfl 41 _ rfl w.heap.size rfl 41 (stepCells x kv).toArray (0, 0) _ H2.out Tryd.underlying41 rfl (info41.trans (congrArg some HSZ.out.symm)) ?_)
    refine (rline_any x kv w2 HO.out HK2.out).mono ?_
    rintro e w3 ⟨hb3, he⟩
    have HB3 := Lib.hid (HBA.out.trans (hb3.mono HBA.out.size))
    have L3 := LA.below hb3
    have H3 := Lib.hid ((hb3.block _ (block_lt_of_heap H2.out)).trans H2.out)
    have HK3 := Lib.hid (HK2.out.below hb3)
    clear hb3
    have hpl := Tx.plain_eq (stepOk HO.out)
    cases hr : Tx.refLine x with
    | none =>
      rw [hr] at he hpl
      obtain ⟨s, rfl⟩ := he
      have hpl' : Tx.plainF x = false := hpl
      have HP := Lib.hid hpl'
      clear hpl hpl'
      go_wp2_with (first
        | ((with_reducible show wpList _ _ _ ({ dst := _, op := Op.load 41 _, type := _, pos := _, after := _, guard := _ } :: _) _ _); refine wpList_load_wanted rfl 41 _ rfl w.heap.size rfl 41 (stepCells x kv).toArray (0, 0) _ H3.out Tryd.underlying41 rfl (info41.trans (congrArg some HSZ.out.symm)) ?_)
        | (go_at_call 17; refine (plain_any x kv w3 HO.out L3 HK3.out).mono ?_; rintro e w4 ⟨rfl, hb4⟩; rw [HP.out]))
      go_ret
      exact ⟨rfl, HB3.out.trans (hb4.mono HB3.out.size)⟩
    | some t =>
      rw [hr] at he hpl
      subst he
      have hpl' : Tx.plainF x = true := hpl
      have HP := Lib.hid hpl'
      have ht := (Tx.line_read (stepOk HO.out) hr).1
      have HT := Lib.hid ht
      clear hpl hpl' ht hr
      go_wp2_with ((with_reducible show wpList _ _ _ ({ dst := _, op := Op.load 41 _, type := _, pos := _, after := _, guard := _ } :: _) _ _); refine wpList_load_wanted rfl 41 _ rfl w.heap.size rfl 41 (stepCells x kv).toArray (0, 0) _ H3.out Tryd.underlying41 rfl (info41.trans (congrArg some HSZ.out.symm)) ?_)
      refine (plain_any x kv w3 HO.out L3 HK3.out).mono ?_
      rintro e w4 ⟨rfl, hb4⟩
      rw [HP.out]
      have HB4 := Lib.hid (HB3.out.trans (hb4.mono HB3.out.size))
      have L4 := L3.below hb4
      have H4 := Lib.hid ((hb4.block _ (block_lt_of_heap H3.out)).trans H3.out)
      have HK4 := Lib.hid (HK3.out.below hb4)
      clear hb4
      go_wp2_with ((with_reducible show wpList _ _ _ ({ dst := _, op := Op.load 41 _, type := _, pos := _, after := _, guard := _ } :: _) _ _); refine wpList_load_wanted rfl 41 _ rfl w.heap.size rfl 41 (stepCells x kv).toArray (0, 0) _ H4.out Tryd.underlying41 rfl (info41.trans (congrArg some HSZ.out.symm)) ?_)
      have hba := below_new w4 (.cells (stepCells x kv).toArray 41)
      refine (print_any _ [x] _ (one_steps HK4.out) (by simp) (by simpa using HO.out) (L4.below hba)).mono ?_
      rintro e w5 ⟨rfl, hb5⟩
      have hpt : (printF [x] == t) = true := by rw [← HT.out]; simp [printF]
      have HB5 := Lib.hid (HB4.out.trans ((hba.trans (hb5.mono hba.size)).mono HB4.out.size))
      clear hba hb5
      go_wp2
      go_ret
      exact ⟨rfl, HB5.out⟩

end Go.Proofs.YtjjlmhlfobmpgaaDoor
