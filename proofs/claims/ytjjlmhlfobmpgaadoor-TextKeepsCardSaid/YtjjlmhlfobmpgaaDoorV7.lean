/-
Walks: windrowref25.Same of equal steps.
-/
import Derived.Test.YtjjlmhlfobmpgaaDoorV6
namespace Go.Proofs.YtjjlmhlfobmpgaaDoor
open Go.RowKit

/-- A step in a block of its own. -/
structure BoxW (x : Tx.StepV) (kv : Value) (g : Nat) (W : World) : Prop where
  range : W.rangeAt g 0 (opCells x.op)
  arm : W.cell? ⟨g, 37, none⟩ = some (.int .i64 x.arm)
  crash : W.cell? ⟨g, 38, none⟩ = some (.bool x.crash)
  keep : W.cell? ⟨g, 39, none⟩ = some kv
  soft : W.cell? ⟨g, 40, none⟩ = some (.int .u64 (x.soft : Int))
  tear : W.cell? ⟨g, 41, none⟩ = some (.int .i64 x.tear)
  box : W.heap[g]? = some (.cells (stepCells x kv).toArray 41 (0, 0))

theorem boxW {x : Tx.StepV} {kv : Value} {g : Nat} {W : World} (h : x.op.data.length = 32) (hB : W.heap[g]? = some (.cells (stepCells x kv).toArray 41 (0, 0))) : BoxW x kv g W := by
  obtain ⟨a0, a1, a2, a3, a4, a5⟩ := stepCells_at (kv := kv) h
  refine ⟨fun j v hj => ?_, ?_, ?_, ?_, ?_, ?_, hB⟩
  · rw [cell_of_row W _ _ _ _ _ hB]; simpa using a0 j v hj
  · rw [cell_of_row W _ _ _ _ _ hB]; simpa using a1
  · rw [cell_of_row W _ _ _ _ _ hB]; simpa using a2
  · rw [cell_of_row W _ _ _ _ _ hB]; simpa using a3
  · rw [cell_of_row W _ _ _ _ _ hB]; simpa using a4
  · rw [cell_of_row W _ _ _ _ _ hB]; simpa using a5

theorem two_rows (x : Tx.StepV) (k1 k2 : Value) (wr : World) (h : x.op.data.length = 32) :
    let W1 := (wr.alloc (.cells Z42 41)).setRow wr.heap.size (stepCells x k1).toArray
    let W2 := (W1.alloc (.cells Z42 41)).setRow (wr.heap.size + 1) (stepCells x k2).toArray
    (wr.alloc (.cells Z42 41)).heap[wr.heap.size]? = some (.cells Z42 41 (0, 0)) ∧ (W1.alloc (.cells Z42 41)).heap[wr.heap.size + 1]? = some (.cells Z42 41 (0, 0)) ∧ Below wr.heap.size wr W1 ∧ Below wr.heap.size wr W2 ∧ BoxW x k1 wr.heap.size W2 ∧ BoxW x k2 (wr.heap.size + 1) W2 := by
  intro W1 W2
  have hs : W1.heap.size = wr.heap.size + 1 := by simp [W1]
  have a1 : (wr.alloc (.cells Z42 41)).heap[wr.heap.size]? = some (.cells Z42 41 (0, 0)) := heap_alloc_new _ _
  have a2 : (W1.alloc (.cells Z42 41)).heap[wr.heap.size + 1]? = some (.cells Z42 41 (0, 0)) := by rw [← hs]; exact heap_alloc_new _ _
  have b1 : Below wr.heap.size wr W1 := M.below_setRow (below_new _ _) (Nat.le_refl _) _
  have b2 : Below wr.heap.size wr W2 := M.below_setRow (b1.alloc (by omega) _) (by omega) _
  refine ⟨a1, a2, b1, b2, boxW h ?_, boxW h (M.heap_setRow_same _ _ _ _ _ a2)⟩
  show ((W1.alloc (.cells Z42 41)).setRow (wr.heap.size + 1) (stepCells x k2).toArray).heap[wr.heap.size]? = _
  rw [M.heap_setRow_other _ _ _ _ (by omega), M.heap_alloc_if, if_neg (by omega)]
  exact M.heap_setRow_same _ _ _ _ _ a1

set_option maxHeartbeats 4000000 in
set_option maxRecDepth 100000 in
/-- windrowref25.Same: equal steps are. -/
theorem rsame_yes (v1 v2 : Value) (l : List Tx.StepV) (w : World) (hv1 : StepsR w v1 l) (hv2 : StepsR w v2 l) (hl : l.length ≤ 5000) (hd : ∀ x ∈ l, x.op.data.length = 32) (hkl : ∀ x ∈ l, x.keep.length ≤ 1000001) :
    Calls Tryd.prog 14 #[v1, v2] w fun e w' => e = .returned (.bool true) ∧ Below w.heap.size w w' := by
  have HV1 := Lib.hid hv1
  have HV2 := Lib.hid hv2
  obtain ⟨a1, c1, rfl, -⟩ := hv1
  obtain ⟨a2, c2, rfl, -⟩ := hv2
  have HD := Lib.hid hd
  have HKL := Lib.hid hkl
  clear hd hkl
  go_enter Tryd.func14, Tryd.ntmps14
  go_wp2
  go_loopw [5, 6, 7, 8] (fun i _ _ _ wr => ∃ (k : Nat), k ≤ l.length ∧ i = .int .i64 k ∧ Below w.heap.size w wr) (fun i _ _ _ _ => l.length - (intOf i).toNat)
  case atStart => exact ⟨0, Nat.zero_le _, rfl, Below.refl _ _⟩
  case round =>
    obtain ⟨k, hk, rfl, hb⟩ := hrel
    have HB := Lib.hid hb
    by_cases hlt : k < l.length
    · obtain ⟨x, hx⟩ : ∃ x, l[k]? = some x := ⟨_, List.getElem?_eq_getElem hlt⟩
      have hxl := List.mem_of_getElem? hx
      obtain ⟨a', c', hac, hh⟩ := HV1.out
      obtain ⟨b1, o1, ha, hcells⟩ := hh (by intro e; rw [e] at hlt; simp at hlt)
      injection hac with hac1 hac2 hac3
      subst hac1
      subst ha
      obtain ⟨k1, hr1, hk1⟩ := hcells k x hx
      have HR1 := Lib.hid (rangeAt_below hr1 hb)
      have HK1 := Lib.hid (hk1.below hb)
      clear hac2 hac3 hh hcells hr1 hk1
      obtain ⟨a', c', hac, hh⟩ := HV2.out
      obtain ⟨b2, o2, ha, hcells⟩ := hh (by intro e; rw [e] at hlt; simp at hlt)
      injection hac with hac1 hac2 hac3
      subst hac1
      subst ha
      obtain ⟨k2, hr2, hk2⟩ := hcells k x hx
      have HR2 := Lib.hid (rangeAt_below hr2 hb)
      have HK2 := Lib.hid (hk2.below hb)
      clear hac2 hac3 hh hcells hr2 hk2
      have hxd := HD.out x hxl
      have hkx := HKL.out x hxl
      have HSZ1 := Lib.hid (stepCells_len (kv := k1) hxd)
      have HSZ2 := Lib.hid (stepCells_len (kv := k2) hxd)
      have HON1 := Lib.hid (one_step x k1 (keep_one HK1.out))
      have HON2 := Lib.hid (one_step x k2 (keep_one HK2.out))
      obtain ⟨t1, t2, t3, t4, t5, t6⟩ := two_rows x k1 k2 wr hxd
      have HT1 := Lib.hid t1
      have HT2 := Lib.hid t2
      have HB1 := Lib.hid t3
      have HB2 := Lib.hid t4
      have HX1 := Lib.hid t5
      have HX2 := Lib.hid t6
      have HR2' := Lib.hid (rangeAt_below HR2.out t3)
      have HXD := Lib.hid hxd
      have hlt2 : (k : Int) < (l.length : Int) := by omega
      have hs1 : ((wr.alloc (.cells Z42 41)).setRow wr.heap.size (stepCells x k1).toArray).heap.size = wr.heap.size + 1 := by simp
      clear t1 t2 t3 t4 t5 t6 hb hx hxd
      go_upto_region 8 with (first
        | ((with_reducible show wpList _ _ _ ({ dst := _, op := Op.store 41 _ _, type := _, pos := _, after := _, guard := _ } :: _) _ _); first
            | (refine M.wpList_store_row rfl 41 _ _ rfl wr.heap.size rfl 41 Z42 (stepCells x k1).toArray rfl HT1.out (info41.trans (congrArg some HSZ1.out.symm)) HSZ1.out.symm HON1.out ?_)
            | (refine M.wpList_store_row rfl 41 _ _ rfl (wr.heap.size + 1) rfl 41 Z42 (stepCells x k2).toArray rfl HT2.out (info41.trans (congrArg some HSZ2.out.symm)) HSZ2.out.symm HON2.out ?_))
        | ((with_reducible show wpList _ _ _ ({ dst := _, op := Op.load 41 _, type := _, pos := _, after := _, guard := _ } :: _) _ _); first
            | (refine wpList_load_mid rfl 41 _ rfl b1 (o1 + k * 42) rfl (stepCells x k1) _ HR1.out Tryd.underlying41 rfl (info41.trans (congrArg some (HSZ1.out.symm.trans (by simp)))) ?_)
            | (refine wpList_load_mid rfl 41 _ rfl b2 (o2 + k * 42) rfl (stepCells x k2) _ HR2'.out Tryd.underlying41 rfl (info41.trans (congrArg some (HSZ2.out.symm.trans (by simp)))) ?_)))
      have hWdef : ∃ W, W = ((((wr.alloc (.cells Z42 41)).setRow wr.heap.size (stepCells x k1).toArray).alloc (.cells Z42 41)).setRow (wr.heap.size + 1) (stepCells x k2).toArray) := ⟨_, rfl⟩
      obtain ⟨W, hW⟩ := hWdef
      rw [← hW] at HB2 HX1 HX2
      have e1 := HX1.out.arm
      have e2 := HX1.out.crash
      have e3 := HX1.out.keep
      have e4 := HX1.out.soft
      have e5 := HX1.out.tear
      have f1 := HX2.out.arm
      have f2 := HX2.out.crash
      have f3 := HX2.out.keep
      have f4 := HX2.out.soft
      have f5 := HX2.out.tear
      have HNE := Lib.hid (run_ne_op x.op x.op HXD.out HXD.out)
      have HOO : Hid (Tx.opEq x.op x.op = true) := Lib.hid ((Tx.opEq_iff _ _).2 rfl)
      obtain ⟨p1, q1, rfl, hk1⟩ := HK1.out
      obtain ⟨p2, q2, rfl, hk2⟩ := HK2.out
      have HKK1 := Lib.hid hk1
      have HKK2 := Lib.hid hk2
      have HWB := Lib.hid hW
      clear hk1 hk2 hs1 HT1 HT2
      unfold Z42 at hW
      rw [← hW]
      clear hW HWB
      go_wp2_with (first
        | ((with_reducible show wpList _ _ _ ({ dst := _, op := Op.load 35 _, type := _, pos := _, after := _, guard := _ } :: _) _ _); first
            | (refine wpList_load_mid rfl 35 _ rfl wr.heap.size 0 rfl (opCells x.op) _ HX1.out.range Tryd.underlying35 rfl (info35.trans (by rw [opCells_len HXD.out])) ?_)
            | (refine wpList_load_mid rfl 35 _ rfl (wr.heap.size + 1) 0 rfl (opCells x.op) _ HX2.out.range Tryd.underlying35 rfl (info35.trans (by rw [opCells_len HXD.out])) ?_))
        | ((with_reducible show wpList _ _ _ ({ dst := _, op := Op.binOp .neq 35 _ _ _, type := _, pos := _, after := _, guard := _ } :: _) _ _); refine wpList_binop rfl .neq 35 35 _ _ rfl (.agg (opCells x.op).toArray) (.agg (opCells x.op).toArray) _ rfl rfl (run_eqGuard_agg _ _ _ _ _ _ _ guard35) (HNE.out _) ?_; rw [HOO.out]))
      clear e1 e2 e4 e5 f1 f2 f4 f5 e3 f3
      obtain ⟨wo, rfl⟩ : ∃ wo : World, wo = wr := ⟨_, rfl⟩
      have HWW := Lib.hid (HB.out.trans (HB2.out.mono HB.out.size))
      go_loopw [8] (fun i wi => ∃ j : Nat, j ≤ x.keep.length ∧ i = .int .i64 j ∧ Below W.heap.size W wi) (fun i _ => x.keep.length - (intOf i).toNat)
      case atStart => exact ⟨0, Nat.zero_le _, rfl, Below.refl _ _⟩
      case round =>
        obtain ⟨j, hj, rfl, hbi⟩ := hrel
        have e3 := (hbi.cell (p := ⟨wo.heap.size, 39, none⟩) (World.block_lt_of_cell? _ _ HX1.out.keep)).trans HX1.out.keep
        have f3 := (hbi.cell (p := ⟨wo.heap.size + 1, 39, none⟩) (World.block_lt_of_cell? _ _ HX2.out.keep)).trans HX2.out.keep
        have HBI := Lib.hid hbi
        by_cases hjt : j < x.keep.length
        · obtain ⟨n, hn⟩ : ∃ n, x.keep[j]? = some n := ⟨_, List.getElem?_eq_getElem hjt⟩
          have hne : x.keep ≠ [] := by intro e; rw [e] at hjt; simp at hjt
          obtain ⟨g1, r1, rfl, hc1⟩ := HKK1.out hne
          obtain ⟨g2, r2, rfl, hc2⟩ := HKK2.out hne
          have hbo := HB2.out.trans (hbi.mono HB2.out.size)
          have m1 : wr.cell? ⟨g1, r1 + j, none⟩ = some (.int .i64 n) := (hbo.cell (p := ⟨g1, r1 + j, none⟩) (World.block_lt_of_cell? _ _ (hc1 j n hn))).trans (hc1 j n hn)
          have m2 : wr.cell? ⟨g2, r2 + j, none⟩ = some (.int .i64 n) := (hbo.cell (p := ⟨g2, r2 + j, none⟩) (World.block_lt_of_cell? _ _ (hc2 j n hn))).trans (hc2 j n hn)
          have hjt2 : (j : Int) < (x.keep.length : Int) := by omega
          clear hc1 hc2 hn hbi hbo hne
          go_wp2
          go_quiet (fail)
          go_wp2
          go_roundw
          case rel => exact ⟨j + 1, by omega, by go_num, HBI.out.trans (below_drewN _ _ _)⟩
          case measure => simp [intOf]; omega
        · have hjt2 : ¬ (j : Int) < (x.keep.length : Int) := by omega
          clear hbi
          go_wp2
          refine ⟨⟨k + 1, by omega, by go_num, HWW.out.trans (HBI.out.mono HWW.out.size)⟩, ?_⟩
          simp [intOf]; omega
    · have hke : k = l.length := by omega
      have hlt2 : ¬ (k : Int) < (l.length : Int) := by omega
      clear hke
      go_wp2
      go_ret
      exact ⟨rfl, HB.out⟩

end Go.Proofs.YtjjlmhlfobmpgaaDoor
