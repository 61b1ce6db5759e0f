/-
Walks: text.operation, its loops.
-/
import Derived.Test.YtjjlmhlfobmpgaaDoorK
namespace Go.Proofs.YtjjlmhlfobmpgaaDoor
open Go.RowKit

/-- The operation's word is found. -/
theorem op_found {k : Nat} {n : Tx.Bytes} {kd : Int} {sy : Bool} {tl : Tx.Bytes} {r : List Tx.Bytes} (h : Tx.words[k]? = some (n, kd, sy, tl)) (hl : r.length = tl.length) :
    Tx.operationF (n :: r) = Tx.argsF { Tx.op0 with kind := kd, sync := sy } tl r := by
  have hm := List.mem_of_getElem? h
  have hf := Tx.find_name hm (l := n :: r) rfl (by simp [hl]; omega)
  unfold Tx.operationF
  rw [hf]
  rfl

theorem take_split {α : Type} {l : List α} {j : Nat} {x : α} (h : l[j]? = some x) : l = l.take j ++ x :: l.drop (j + 1) := by
  have hj := (List.getElem?_eq_some_iff.1 h).1
  have : l[j] = x := by rw [List.getElem?_eq_getElem hj] at h; exact Option.some.inj h
  rw [← this, List.getElem_cons_drop, List.take_append_drop]

theorem op_step {o0 o o1 : Tx.OpV} {tl : Tx.Bytes} {r : List Tx.Bytes} {j : Nat} {c : UInt8} {f : Tx.Bytes} (hl : r.length = tl.length) (hc : tl[j]? = some c) (hf : r[j]? = some f) (h : Tx.argsF o0 (tl.take j) (r.take j) = some o)
    (h1 : Tx.argF o c f = some o1) : Tx.argsF o0 (tl.take (j + 1)) (r.take (j + 1)) = some o1 := by
  rw [List.take_add_one, List.take_add_one, hc, hf]
  have := args_snoc _ _ _ _ c f (by simp [hl]) h
  simpa [h1] using this

theorem op_fail {o0 o : Tx.OpV} {tl : Tx.Bytes} {r : List Tx.Bytes} {j : Nat} {c : UInt8} {f : Tx.Bytes} (hl : r.length = tl.length) (hc : tl[j]? = some c) (hf : r[j]? = some f) (h : Tx.argsF o0 (tl.take j) (r.take j) = some o)
    (h1 : Tx.argF o c f = none) : Tx.argsF o0 tl r = none := by
  rw [take_split hc, take_split hf]
  exact args_no _ _ _ _ c f _ _ (by simp [hl]) h h1

theorem set_id (o : Tx.OpV) (v : Int) (_ : o.data.length = 32) : (opCells o).toArray.setIfInBounds 1 (.int .i64 v) = (opCells { o with id := v }).toArray := by
  simp [opCells]
theorem set_block (o : Tx.OpV) (v : Int) (_ : o.data.length = 32) : (opCells o).toArray.setIfInBounds 2 (.int .i64 v) = (opCells { o with block := v }).toArray := by
  simp [opCells]
theorem set_policy (o : Tx.OpV) (v : Int) (h : o.data.length = 32) : (opCells o).toArray.setIfInBounds 36 (.int .i64 v) = (opCells { o with policy := v }).toArray := by
  simp [opCells, h]
theorem set_data (o : Tx.OpV) (d : Tx.Bytes) (h : o.data.length = 32) (hd : d.length = 32) :
    ((opCells o).toArray.toList.take 3 ++ (d.map bv).toArray.toList ++ (opCells o).toArray.toList.drop (3 + (d.map bv).toArray.size)).toArray = (opCells { o with data := d }).toArray := by
  simp [opCells, h, hd]

theorem one_op (o : Tx.OpV) : (opCells o).toArray.all (·.oneCell') = true := by
  refine Array.all_eq_true_iff_forall_mem.2 fun v hv => ?_
  simp only [opCells, List.mem_toArray, List.mem_append, List.mem_cons, List.mem_map, List.not_mem_nil, or_false] at hv
  rcases hv with ((rfl | rfl | rfl) | ⟨b, _, rfl⟩) | rfl | rfl <;> rfl

theorem op_none {l0 : Tx.Bytes} {r : List Tx.Bytes} (h : ∀ j x, j < 13 → Tx.words[j]? = some x → (x.1 == l0 && r.length == x.2.2.2.length) = false) : Tx.operationF (l0 :: r) = none := by
  unfold Tx.operationF
  have : Tx.words.find? (fun w => w.1 == (l0 :: r).headD [] && (l0 :: r).length == 1 + w.2.2.2.length) = none := by
    rw [List.find?_eq_none]
    intro x hx
    obtain ⟨j, hj⟩ := List.getElem?_of_mem hx
    have hlt2 : j < 13 := (List.getElem?_eq_some_iff.1 hj).1
    have := h j x hlt2 hj
    simp only [List.headD_cons, List.length_cons, Bool.and_eq_false_iff, beq_eq_false_iff_ne] at this ⊢
    simp only [Bool.and_eq_true, beq_iff_eq, not_and]
    rcases this with h | h
    · exact fun e => absurd e h
    · exact fun _ e => h (by omega)
  rw [this]

set_option maxHeartbeats 8000000 in
set_option maxRecDepth 100000 in
/-- An operation of at least one word more. -/
theorem operation_more (g : Nat) (l0 : Tx.Bytes) (r : List Tx.Bytes) (w : World) (H : WordsAt w g (l0 :: r)) (L : Ld w) (hr : ¬ r.length + 1 = 1) :
    Calls Tryd.prog 34 #[.slice (some ⟨g, 0, none⟩) (r.length + 1) (r.length + 1)] w (OpP (Tx.operationF (l0 :: r)) w) := by
  have HH := Lib.hid H
  have hfew := H.few
  simp only [List.length_cons] at hfew
  have HR := Lib.hid hr
  clear H hr
  go_enter Tryd.func34, Tryd.ntmps34
  go_wp2_with (go_at_call 46; refine (words_any _).mono ?_; rintro e w' ⟨rfl, rfl⟩)
  go_loopw [12] (fun i wr => ∃ k : Nat, k ≤ 13 ∧ i = .int .i64 k ∧ (∀ j x, j < k → Tx.words[j]? = some x → (x.1 == l0 && r.length == x.2.2.2.length) = false) ∧
      Below (w.heap.size + 2) ((w.alloc (.cells Z37 35)).alloc (.cells wordCells 89)) wr) (fun i _ => 13 - (intOf i).toNat)
  case atStart => exact ⟨0, Nat.zero_le _, rfl, fun j x hj => absurd hj (Nat.not_lt_zero _), Below.refl _ _⟩
  case round =>
    obtain ⟨k, hk, rfl, hall, hb⟩ := hrel
    have HA := Lib.hid hall
    clear hall
    have hsz : w.heap.size + 2 ≤ wr.heap.size := by simpa using hb.size
    have hbw : Below w.heap.size w wr := ((((Below.refl _ _).alloc (Nat.le_refl _) _).alloc (by simp) _)).trans (hb.mono (by omega))
    have HBW := Lib.hid hbw
    clear hbw
    by_cases hlt : k < 13
    · have hk13 : (k : Int) < 13 := by omega
      obtain ⟨⟨n, kd, sy, tl⟩, hx⟩ : ∃ x, Tx.words[k]? = some x := ⟨_, List.getElem?_eq_getElem hlt⟩
      have HX := Lib.hid hx
      have htl := words_len _ _ hx
      have hB1 : wr.heap[w.heap.size + 1]? = some (.cells wordCells 89 (0, 0)) := by
        rw [hb.block _ (by omega), M.heap_alloc_if, if_pos (by simp)]
      have hB0 : wr.heap[w.heap.size]? = some (.cells Z37 35 (0, 0)) := by
        rw [hb.block _ (by omega), M.heap_alloc_if, if_neg (by simp), M.heap_alloc_if, if_pos rfl]
      have hc0 : wr.cell? ⟨w.heap.size + 1, k * 4, none⟩ = some (str n) := by rw [cell_of_row wr _ _ _ _ _ hB1]; exact words_at hx 0 (by omega)
      have hc1 : wr.cell? ⟨w.heap.size + 1, k * 4 + 1, none⟩ = some (.int .i64 kd) := by rw [cell_of_row wr _ _ _ _ _ hB1]; exact words_at hx 1 (by omega)
      have hc2 : wr.cell? ⟨w.heap.size + 1, k * 4 + 2, none⟩ = some (.bool sy) := by rw [cell_of_row wr _ _ _ _ _ hB1]; exact words_at hx 2 (by omega)
      have hc3 : wr.cell? ⟨w.heap.size + 1, k * 4 + 3, none⟩ = some (str tl) := by rw [cell_of_row wr _ _ _ _ _ hB1]; exact words_at hx 3 (by omega)
      have hcl : ∀ o, (wr.alloc o).cell? ⟨g, 0, none⟩ = some (.string ⟨l0.toArray⟩) := fun o => words_cell HH.out rfl (HBW.out.alloc (by omega) _)
      have HB0 := Lib.hid hB0
      have HB := Lib.hid hb
      clear hx hB1 hB0 hb
      unfold str at hc0 hc3
      have htl' : tl.length ≤ 3 := htl
      clear htl
      have hadd : IntKind.i64.wrap (1 + (tl.length : Int)) = 1 + (tl.length : Int) := IntWalk.i64_in _ (by omega)
      by_cases hm : n = l0 ∧ r.length = tl.length
      · obtain ⟨rfl, hrl⟩ := hm
        have he2 : (((r.length : Int) + 1) != 1 + (tl.length : Int)) = false := by simp; omega
        have hn2 : (n == n) = true := by simp
        have htne : ¬ tl = [] := fun e => HR.out (by rw [hrl, e]; rfl)
        have HRL := Lib.hid hrl
        have HTN := Lib.hid htne
        obtain ⟨wo, rfl⟩ : ∃ wo : World, wo = wr := ⟨_, rfl⟩
        rw [hrl] at he2
        have HW0 : Hid (∀ nq, (((wo.alloc (.cells #[.string ⟨n.toArray⟩, .int .i64 kd, .bool sy, .string ⟨tl.toArray⟩] 89)).drewN nq).alloc (.cells Z37 35)).heap[wo.heap.size + 1]? = some (.cells Z37 35 (0, 0))) := Lib.hid (fun nq => by
          rw [M.heap_alloc_if, if_pos (by simp [World.drewN])])
        go_wp2
        go_quiet (fail)
        go_wp2_with (refine M.wpList_store_row rfl 35 _ _ rfl (wo.heap.size + 1) rfl 35 Z37 (O37 kd sy) rfl (HW0.out nq) info35 rfl (one_O37 _ _) ?_)
        clear hn2 he2 hadd hcl hc0 hc1 hc2 hc3
        go_loopw [7, 8, 9, 39] (fun _ _ _ i wi => ∃ (j : Nat) (o : Tx.OpV), j ≤ tl.length ∧ i = .int .i64 j ∧ Tx.argsF { Tx.op0 with kind := kd, sync := sy } (tl.take j) (r.take j) = some o ∧ o.data.length = 32 ∧
            wi.heap[wo.heap.size + 1]? = some (.cells (opCells o).toArray 35 (0, 0)) ∧ Below (wo.heap.size + 1) (wo.alloc (.cells #[.string ⟨n.toArray⟩, .int .i64 kd, .bool sy, .string ⟨tl.toArray⟩] 89)) wi) (fun _ _ _ i _ => tl.length - (intOf i).toNat)
        case atStart =>
          refine ⟨0, _, Nat.zero_le _, rfl, rfl, rfl, (M.heap_setRow_same _ _ _ _ _ (HW0.out nq)).trans (by rw [O37_op]), ?_⟩
          exact M.below_setRow ((below_drewN _ nq _).alloc (by simp [World.drewN]) _) (Nat.le_refl _) _
        case round =>
          obtain ⟨j, o, hj, rfl, har, hd, hrow, hbi⟩ := hrel
          have HBI := Lib.hid hbi
          have HAR := Lib.hid har
          have HD := Lib.hid hd
          have HROW := Lib.hid hrow
          have hszi : wo.heap.size + 1 ≤ wr.heap.size := by simpa using hbi.size
          have HRES : Hid (wr.heap[w.heap.size]? = some (.cells Z37 35 (0, 0))) := Lib.hid (by
            rw [hbi.block _ (by omega), M.heap_alloc_if, if_neg (by omega)]; exact HB0.out)
          have HBW2 : Hid (Below w.heap.size w wr) := Lib.hid ((HBW.out.alloc (by omega) _).trans (hbi.mono (by omega)))
          clear har hd hrow
          by_cases hjt : j < tl.length
          · obtain ⟨c, hc⟩ : ∃ c, tl[j]? = some c := ⟨_, List.getElem?_eq_getElem hjt⟩
            obtain ⟨f, hf⟩ : ∃ f, r[j]? = some f := ⟨_, List.getElem?_eq_getElem (by rw [HRL.out]; exact hjt)⟩
            have hix := fun w' => M.run_index_str (P := Tryd.prog) 9 Tryd.underlying9 ⟨tl.toArray⟩ .i64 (j : Int) c (by omega) (by simpa using hc) w'
            have hq3 : wr.cell? ⟨wo.heap.size, 3, none⟩ = some (.string ⟨tl.toArray⟩) := by
              rw [hbi.cell (p := ⟨wo.heap.size, 3, none⟩) (by simp), World.cell?_alloc_new]; rfl
            have hcell : wr.cell? ⟨g, 1 + j, none⟩ = some (str f) := words_cell (j := 1 + j) HH.out (by rw [show 1 + j = j + 1 by omega]; simpa using hf) HBW2.out
            have LX := L.below HBW2.out
            have hff : f ∈ n :: r := by simp [List.mem_of_getElem? hf]
            obtain ⟨_, hop1, hop2, _, hop36, _⟩ := opCells_at HD.out
            have HC := Lib.hid hc
            have HF := Lib.hid hf
            clear hc hf hbi
            by_cases h1 : c.toNat = 105
            · have h1' : ((c.toNat : Int) == 105) = true := by simp; omega
              have HT : Hid (Tx.argF o c f = (Tx.numV f).map fun n => { o with id := n }) := Lib.hid (by unfold Tx.argF; rw [if_pos (UInt8.toNat_inj.1 h1)])
              clear h1
              go_wp2_with fail
              go_at_call 33
              cases hn : Tx.numV f with
              | none =>
                have HNo := Lib.hid hn
                clear hn
                refine (number_no ⟨f.toArray⟩ wr (str_size HH.out hff) (by simpa using HNo.out) LX).mono ?_
                rintro e wA ⟨vA, rfl, hbA⟩
                have hrow := (hbA.block _ (block_lt_of_heap HROW.out)).trans HROW.out
                have hcw : wA.cell? ⟨wo.heap.size + 1, 1, none⟩ = some (.int .i64 o.id) := (cell_of_row wA _ _ _ _ _ hrow).trans (by simpa using hop1)
                have hfw : wA.frozen? ⟨wo.heap.size + 1, 1, none⟩ = false := frozen_of_row _ _ _ _ _ hrow
                have HRS : Hid ((wA.setCell ⟨wo.heap.size + 1, 1, none⟩ (.int .i64 vA)).heap[w.heap.size]? = some (.cells Z37 35 (0, 0))) := Lib.hid ((heap_setCell_other _ _ _ _ (by simp; omega)).trans ((hbA.block _ (block_lt_of_heap HRES.out)).trans HRES.out))
                have HBA := Lib.hid (HBW2.out.trans (hbA.mono HBW2.out.size))
                clear hrow hcell hbA hq3 hix
                go_wp2_with (refine M.wpList_store_row rfl 35 _ _ rfl w.heap.size rfl 35 Z37 Z37 rfl HRS.out info35 rfl one_Z37 ?_)
                refine bodyPost_ret (M.results_cell_tmp rfl _ _ w.heap.size 35 Z37 (0, 0) _ rfl (M.heap_setRow_same _ _ _ _ _ HRS.out) Tryd.underlying35 rfl info35) rfl ?_
                refine ⟨M.below_setRow (HBA.out.setCell (by simp; omega) _) (Nat.le_refl _) _, ?_⟩
                rw [op_found HX.out HRL.out, op_fail HRL.out HC.out HF.out HAR.out (by rw [HT.out, HNo.out]; rfl)]
                rfl
              | some v =>
                have HNo := Lib.hid hn
                clear hn
                refine (number_yes ⟨f.toArray⟩ v wr (str_size HH.out hff) (by simpa using HNo.out) LX).mono ?_
                rintro e wA ⟨rfl, hbA⟩
                have hrow := (hbA.block _ (block_lt_of_heap HROW.out)).trans HROW.out
                have hcw : wA.cell? ⟨wo.heap.size + 1, 1, none⟩ = some (.int .i64 o.id) := (cell_of_row wA _ _ _ _ _ hrow).trans (by simpa using hop1)
                have hfw : wA.frozen? ⟨wo.heap.size + 1, 1, none⟩ = false := frozen_of_row _ _ _ _ _ hrow
                have HROWA := Lib.hid hrow
                clear hrow hcell
                go_wp2
                go_roundw
                case rel =>
                  refine ⟨j + 1, { o with id := v }, by omega, by go_num, op_step HRL.out HC.out HF.out HAR.out (by rw [HT.out, HNo.out]; rfl), HD.out, ?_, (HBI.out.trans (hbA.mono hszi)).setCell (Nat.le_refl _) _⟩
                  rw [heap_setCell_same _ _ _ _ _ _ HROWA.out]
                  rw [set_id o v HD.out]
                case measure => simp [intOf]; omega
            · have n1 : c ≠ 105 := fun e => h1 (by rw [e]; rfl)
              have h1' : ((c.toNat : Int) == 105) = false := by simp; omega
              have h1n := h1
              clear h1
              by_cases h1 : c.toNat = 98
              · have h2' : ((c.toNat : Int) == 98) = true := by simp; omega
                have HT : Hid (Tx.argF o c f = (Tx.numV f).map fun n => { o with block := n }) := Lib.hid (by unfold Tx.argF; rw [if_neg n1]; rw [if_pos (UInt8.toNat_inj.1 h1)])
                clear h1
                go_wp2_with fail
                go_at_call 33
                cases hn : Tx.numV f with
                | none =>
                  have HNo := Lib.hid hn
                  clear hn
                  refine (number_no ⟨f.toArray⟩ wr (str_size HH.out hff) (by simpa using HNo.out) LX).mono ?_
                  rintro e wA ⟨vA, rfl, hbA⟩
                  have hrow := (hbA.block _ (block_lt_of_heap HROW.out)).trans HROW.out
                  have hcw : wA.cell? ⟨wo.heap.size + 1, 2, none⟩ = some (.int .i64 o.block) := (cell_of_row wA _ _ _ _ _ hrow).trans (by simpa using hop2)
                  have hfw : wA.frozen? ⟨wo.heap.size + 1, 2, none⟩ = false := frozen_of_row _ _ _ _ _ hrow
                  have HRS : Hid ((wA.setCell ⟨wo.heap.size + 1, 2, none⟩ (.int .i64 vA)).heap[w.heap.size]? = some (.cells Z37 35 (0, 0))) := Lib.hid ((heap_setCell_other _ _ _ _ (by simp; omega)).trans ((hbA.block _ (block_lt_of_heap HRES.out)).trans HRES.out))
                  have HBA := Lib.hid (HBW2.out.trans (hbA.mono HBW2.out.size))
                  clear hrow hcell hbA hq3 hix
                  go_wp2_with (refine M.wpList_store_row rfl 35 _ _ rfl w.heap.size rfl 35 Z37 Z37 rfl HRS.out info35 rfl one_Z37 ?_)
                  refine bodyPost_ret (M.results_cell_tmp rfl _ _ w.heap.size 35 Z37 (0, 0) _ rfl (M.heap_setRow_same _ _ _ _ _ HRS.out) Tryd.underlying35 rfl info35) rfl ?_
                  refine ⟨M.below_setRow (HBA.out.setCell (by simp; omega) _) (Nat.le_refl _) _, ?_⟩
                  rw [op_found HX.out HRL.out, op_fail HRL.out HC.out HF.out HAR.out (by rw [HT.out, HNo.out]; rfl)]
                  rfl
                | some v =>
                  have HNo := Lib.hid hn
                  clear hn
                  refine (number_yes ⟨f.toArray⟩ v wr (str_size HH.out hff) (by simpa using HNo.out) LX).mono ?_
                  rintro e wA ⟨rfl, hbA⟩
                  have hrow := (hbA.block _ (block_lt_of_heap HROW.out)).trans HROW.out
                  have hcw : wA.cell? ⟨wo.heap.size + 1, 2, none⟩ = some (.int .i64 o.block) := (cell_of_row wA _ _ _ _ _ hrow).trans (by simpa using hop2)
                  have hfw : wA.frozen? ⟨wo.heap.size + 1, 2, none⟩ = false := frozen_of_row _ _ _ _ _ hrow
                  have HROWA := Lib.hid hrow
                  clear hrow hcell
                  go_wp2
                  go_roundw
                  case rel =>
                    refine ⟨j + 1, { o with block := v }, by omega, by go_num, op_step HRL.out HC.out HF.out HAR.out (by rw [HT.out, HNo.out]; rfl), HD.out, ?_, (HBI.out.trans (hbA.mono hszi)).setCell (Nat.le_refl _) _⟩
                    rw [heap_setCell_same _ _ _ _ _ _ HROWA.out]
                    rw [set_block o v HD.out]
                  case measure => simp [intOf]; omega
              · have n2 : c ≠ 98 := fun e => h1 (by rw [e]; rfl)
                have h2' : ((c.toNat : Int) == 98) = false := by simp; omega
                have h2n := h1
                clear h1
                by_cases h1 : c.toNat = 112
                · have h3' : ((c.toNat : Int) == 112) = true := by simp; omega
                  have HT : Hid (Tx.argF o c f = (Tx.numV f).map fun n => { o with policy := n }) := Lib.hid (by unfold Tx.argF; rw [if_neg n1, if_neg n2]; rw [if_pos (UInt8.toNat_inj.1 h1)])
                  clear h1
                  go_wp2_with fail
                  go_at_call 33
                  cases hn : Tx.numV f with
                  | none =>
                    have HNo := Lib.hid hn
                    clear hn
                    refine (number_no ⟨f.toArray⟩ wr (str_size HH.out hff) (by simpa using HNo.out) LX).mono ?_
                    rintro e wA ⟨vA, rfl, hbA⟩
                    have hrow := (hbA.block _ (block_lt_of_heap HROW.out)).trans HROW.out
                    have hcw : wA.cell? ⟨wo.heap.size + 1, 36, none⟩ = some (.int .i64 o.policy) := (cell_of_row wA _ _ _ _ _ hrow).trans (by simpa using hop36)
                    have hfw : wA.frozen? ⟨wo.heap.size + 1, 36, none⟩ = false := frozen_of_row _ _ _ _ _ hrow
                    have HRS : Hid ((wA.setCell ⟨wo.heap.size + 1, 36, none⟩ (.int .i64 vA)).heap[w.heap.size]? = some (.cells Z37 35 (0, 0))) := Lib.hid ((heap_setCell_other _ _ _ _ (by simp; omega)).trans ((hbA.block _ (block_lt_of_heap HRES.out)).trans HRES.out))
                    have HBA := Lib.hid (HBW2.out.trans (hbA.mono HBW2.out.size))
                    clear hrow hcell hbA hq3 hix
                    go_wp2_with (refine M.wpList_store_row rfl 35 _ _ rfl w.heap.size rfl 35 Z37 Z37 rfl HRS.out info35 rfl one_Z37 ?_)
                    refine bodyPost_ret (M.results_cell_tmp rfl _ _ w.heap.size 35 Z37 (0, 0) _ rfl (M.heap_setRow_same _ _ _ _ _ HRS.out) Tryd.underlying35 rfl info35) rfl ?_
                    refine ⟨M.below_setRow (HBA.out.setCell (by simp; omega) _) (Nat.le_refl _) _, ?_⟩
                    rw [op_found HX.out HRL.out, op_fail HRL.out HC.out HF.out HAR.out (by rw [HT.out, HNo.out]; rfl)]
                    rfl
                  | some v =>
                    have HNo := Lib.hid hn
                    clear hn
                    refine (number_yes ⟨f.toArray⟩ v wr (str_size HH.out hff) (by simpa using HNo.out) LX).mono ?_
                    rintro e wA ⟨rfl, hbA⟩
                    have hrow := (hbA.block _ (block_lt_of_heap HROW.out)).trans HROW.out
                    have hcw : wA.cell? ⟨wo.heap.size + 1, 36, none⟩ = some (.int .i64 o.policy) := (cell_of_row wA _ _ _ _ _ hrow).trans (by simpa using hop36)
                    have hfw : wA.frozen? ⟨wo.heap.size + 1, 36, none⟩ = false := frozen_of_row _ _ _ _ _ hrow
                    have HROWA := Lib.hid hrow
                    clear hrow hcell
                    go_wp2
                    go_roundw
                    case rel =>
                      refine ⟨j + 1, { o with policy := v }, by omega, by go_num, op_step HRL.out HC.out HF.out HAR.out (by rw [HT.out, HNo.out]; rfl), HD.out, ?_, (HBI.out.trans (hbA.mono hszi)).setCell (Nat.le_refl _) _⟩
                      rw [heap_setCell_same _ _ _ _ _ _ HROWA.out]
                      rw [set_policy o v HD.out]
                    case measure => simp [intOf]; omega
                · have n3 : c ≠ 112 := fun e => h1 (by rw [e]; rfl)
                  have h3' : ((c.toNat : Int) == 112) = false := by simp; omega
                  clear h1 h1n h2n
                  have HT : Hid (Tx.argF o c f = (Tx.dataF f).map fun d => { o with data := d }) := Lib.hid (by unfold Tx.argF; rw [if_neg n1, if_neg n2, if_neg n3])
                  go_wp2_with fail
                  go_at_call 47
                  refine (data_any ⟨f.toArray⟩ wr).mono ?_
                  rintro e wA ⟨hbA, hdat⟩
                  have hdat2 : match Tx.dataF f with
                    | some d => e = .returned (.tuple #[.agg (d.map bv).toArray, .bool true])
                    | none => ∃ cs : Array Value, e = .returned (.tuple #[.agg cs, .bool false]) ∧ cs.size = 32 ∧ cs.all (·.oneCell') = true := hdat
                  clear hdat
                  have hrow := (hbA.block _ (block_lt_of_heap HROW.out)).trans HROW.out
                  have HROWA := Lib.hid hrow
                  have HRA := Lib.hid ((hbA.block _ (block_lt_of_heap HRES.out)).trans HRES.out)
                  have HBA := Lib.hid (HBW2.out.trans (hbA.mono HBW2.out.size))
                  have HBA2 := Lib.hid (HBI.out.trans (hbA.mono hszi))
                  clear hrow hcell hbA hq3 hix
                  cases hn : Tx.dataF f with
                  | none =>
                    rw [hn] at hdat2
                    have HNo := Lib.hid hn
                    clear hn
                    obtain ⟨cs, rfl, hcs, hone⟩ := hdat2
                    have hle : 3 + cs.size ≤ (opCells o).toArray.size := by rw [hcs]; simp [opCells, HD.out]
                    have HCS := Lib.hid hcs
                    have HONE := Lib.hid hone
                    have HLE := Lib.hid hle
                    clear hcs hone hle
                    have HRS : Hid (∀ x, (wA.setRow (wo.heap.size + 1) x).heap[w.heap.size]? = some (.cells Z37 35 (0, 0))) := Lib.hid (fun x => (M.heap_setRow_other _ _ _ _ (by omega)).trans HRA.out)
                    go_wp2_with (first
                      | (refine wpList_store_midrow rfl 33 _ _ rfl (wo.heap.size + 1) 3 rfl 35 (opCells o).toArray cs rfl HROWA.out (info33.trans (congrArg some HCS.out.symm)) HLE.out HONE.out ?_)
                      | (refine M.wpList_store_row rfl 35 _ _ rfl w.heap.size rfl 35 Z37 Z37 rfl (HRS.out _) info35 rfl one_Z37 ?_))
                    refine bodyPost_ret (M.results_cell_tmp rfl _ _ w.heap.size 35 Z37 (0, 0) _ rfl (M.heap_setRow_same _ _ _ _ _ (HRS.out _)) Tryd.underlying35 rfl info35) rfl ?_
                    refine ⟨M.below_setRow (M.below_setRow HBA.out (by omega) _) (Nat.le_refl _) _, ?_⟩
                    rw [op_found HX.out HRL.out, op_fail HRL.out HC.out HF.out HAR.out (by rw [HT.out, HNo.out]; rfl)]
                    rfl
                  | some d =>
                    rw [hn] at hdat2
                    have HNo := Lib.hid hn
                    clear hn
                    subst hdat2
                    have hdl := (Tx.data_some HNo.out).2
                    have HDL := Lib.hid hdl
                    clear hdl
                    have HLE : Hid (3 + (d.map bv).toArray.size ≤ (opCells o).toArray.size) := Lib.hid (by simp [opCells, HD.out, HDL.out])
                    go_wp2_with (refine wpList_store_midrow rfl 33 _ _ rfl (wo.heap.size + 1) 3 rfl 35 (opCells o).toArray (d.map bv).toArray rfl HROWA.out (info33.trans (by simp [HDL.out])) HLE.out (one_bv _) ?_)
                    go_roundw
                    case rel =>
                      refine ⟨j + 1, { o with data := d }, by omega, by go_num, op_step HRL.out HC.out HF.out HAR.out (by rw [HT.out, HNo.out]; rfl), HDL.out, ?_, M.below_setRow HBA2.out (Nat.le_refl _) _⟩
                      rw [M.heap_setRow_same _ _ _ _ _ HROWA.out]
                      congr 2
                      simp [opCells, HD.out, HDL.out]
                    case measure => simp [intOf]; omega
          · have hje : j = tl.length := by omega
            subst hje
            have HF1 : Hid (Tx.operationF (n :: r) = some o) := Lib.hid (by
              rw [op_found HX.out HRL.out]
              have := HAR.out
              rwa [List.take_length, ← HRL.out, List.take_length] at this)
            have HSZ : Hid (some 37 = some (opCells o).toArray.size) := Lib.hid (by simp [opCells, HD.out])
            clear hbi
            go_wp2_with (first
              | (refine wpList_load_row rfl 35 _ rfl (wo.heap.size + 1) rfl 35 (opCells o).toArray (0, 0) _ HROW.out Tryd.underlying35 rfl (info35.trans HSZ.out) ?_)
              | (refine M.wpList_store_row rfl 35 _ _ rfl w.heap.size rfl 35 Z37 (opCells o).toArray rfl HRES.out (info35.trans HSZ.out) (Option.some.inj HSZ.out) (one_op _) ?_))
            refine bodyPost_ret (M.results_cell_tmp rfl _ _ w.heap.size 35 (opCells o).toArray (0, 0) _ rfl (M.heap_setRow_same _ _ _ _ _ HRES.out) Tryd.underlying35 rfl (info35.trans HSZ.out)) rfl ?_
            refine ⟨M.below_setRow HBW2.out (Nat.le_refl _) _, ?_⟩
            rw [HF1.out]
            rfl
      · have HF : Hid (∀ (j : Nat) (x : Tx.Bytes × Int × Bool × Tx.Bytes), j < k + 1 → Tx.words[j]? = some x → (x.1 == l0 && r.length == x.2.2.2.length) = false) := Lib.hid fun j x hj hx => by
          by_cases e : j = k
          · subst e
            have := HX.out
            rw [this] at hx
            injection hx with hx
            subst hx
            simp only [Bool.and_eq_false_iff, beq_eq_false_iff_ne]
            by_cases e : n = l0
            · exact Or.inr fun e2 => hm ⟨e, e2⟩
            · exact Or.inl e
          · exact HA.out j x (by omega) hx
        have HQ : Hid (∀ o nq, Below (w.heap.size + 2) ((w.alloc (.cells Z37 35)).alloc (.cells wordCells 89)) ((wr.alloc o).drewN nq)) := Lib.hid fun o nq => (HB.out.alloc hsz _).trans (below_drewN _ _ _)
        by_cases hnl : n = l0
        · have hne : ¬ r.length = tl.length := fun e => hm ⟨hnl, e⟩
          have he2 : (((r.length : Int) + 1) != 1 + (tl.length : Int)) = true := by simp; omega
          subst hnl
          have hn2 : (n == n) = true := by simp
          clear hm hne
          go_wp2
          go_quiet (fail)
          go_wp2
          go_roundw
          case rel => exact ⟨k + 1, by omega, by go_num, HF.out, HQ.out _ _⟩
          case measure => simp [intOf]; omega
        · have hn2 : (n == l0) = false := by simpa using hnl
          clear hm hnl
          go_wp2
          go_quiet (fail)
          go_wp2
          go_roundw
          case rel => exact ⟨k + 1, by omega, by go_num, HF.out, HQ.out _ _⟩
          case measure => simp [intOf]; omega
    · have hk13 : k = 13 := by omega
      have hB0 : wr.heap[w.heap.size]? = some (.cells Z37 35 (0, 0)) := by
        rw [hb.block _ (by omega), M.heap_alloc_if, if_neg (by simp), M.heap_alloc_if, if_pos rfl]
      have HB0 := Lib.hid hB0
      have HK := Lib.hid hk13
      clear hk13 hB0 hb
      go_wp2_with (refine M.wpList_store_row rfl 35 _ _ rfl w.heap.size rfl 35 Z37 Z37 rfl HB0.out info35 rfl one_Z37 ?_)
      refine bodyPost_ret (M.results_cell_tmp rfl _ _ w.heap.size 35 Z37 (0, 0) _ rfl (M.heap_setRow_same _ _ _ _ _ HB0.out) Tryd.underlying35 rfl info35) rfl ?_
      refine ⟨M.below_setRow HBW.out (Nat.le_refl _) _, ?_⟩
      rw [op_none fun j x hj hx => HA.out j x (by have := HK.out; omega) hx]
      rfl

set_option maxHeartbeats 8000000 in
set_option maxRecDepth 100000 in
/-- An operation of one word. -/
theorem operation_one (g : Nat) (l0 : Tx.Bytes) (w : World) (H : WordsAt w g [l0]) (_L : Ld w) :
    Calls Tryd.prog 34 #[.slice (some ⟨g, 0, none⟩) 1 1] w (OpP (Tx.operationF [l0]) w) := by
  have HH := Lib.hid H
  have hr0 : ([] : List Tx.Bytes).length = 0 := rfl
  clear H hr0
  go_enter Tryd.func34, Tryd.ntmps34
  go_wp2_with (go_at_call 46; refine (words_any _).mono ?_; rintro e w' ⟨rfl, rfl⟩)
  go_loopw [12] (fun i wr => ∃ k : Nat, k ≤ 13 ∧ i = .int .i64 k ∧ (∀ j x, j < k → Tx.words[j]? = some x → (x.1 == l0 && 0 == x.2.2.2.length) = false) ∧
      Below (w.heap.size + 2) ((w.alloc (.cells Z37 35)).alloc (.cells wordCells 89)) wr) (fun i _ => 13 - (intOf i).toNat)
  case atStart => exact ⟨0, Nat.zero_le _, rfl, fun j x hj => absurd hj (Nat.not_lt_zero _), Below.refl _ _⟩
  case round =>
    obtain ⟨k, hk, rfl, hall, hb⟩ := hrel
    have HA := Lib.hid hall
    clear hall
    have hsz : w.heap.size + 2 ≤ wr.heap.size := by simpa using hb.size
    have hbw : Below w.heap.size w wr := ((((Below.refl _ _).alloc (Nat.le_refl _) _).alloc (by simp) _)).trans (hb.mono (by omega))
    have HBW := Lib.hid hbw
    clear hbw
    by_cases hlt : k < 13
    · have hk13 : (k : Int) < 13 := by omega
      obtain ⟨⟨n, kd, sy, tl⟩, hx⟩ : ∃ x, Tx.words[k]? = some x := ⟨_, List.getElem?_eq_getElem hlt⟩
      have HX := Lib.hid hx
      have htl := words_len _ _ hx
      have hB1 : wr.heap[w.heap.size + 1]? = some (.cells wordCells 89 (0, 0)) := by
        rw [hb.block _ (by omega), M.heap_alloc_if, if_pos (by simp)]
      have hB0 : wr.heap[w.heap.size]? = some (.cells Z37 35 (0, 0)) := by
        rw [hb.block _ (by omega), M.heap_alloc_if, if_neg (by simp), M.heap_alloc_if, if_pos rfl]
      have hc0 : wr.cell? ⟨w.heap.size + 1, k * 4, none⟩ = some (str n) := by rw [cell_of_row wr _ _ _ _ _ hB1]; exact words_at hx 0 (by omega)
      have hc1 : wr.cell? ⟨w.heap.size + 1, k * 4 + 1, none⟩ = some (.int .i64 kd) := by rw [cell_of_row wr _ _ _ _ _ hB1]; exact words_at hx 1 (by omega)
      have hc2 : wr.cell? ⟨w.heap.size + 1, k * 4 + 2, none⟩ = some (.bool sy) := by rw [cell_of_row wr _ _ _ _ _ hB1]; exact words_at hx 2 (by omega)
      have hc3 : wr.cell? ⟨w.heap.size + 1, k * 4 + 3, none⟩ = some (str tl) := by rw [cell_of_row wr _ _ _ _ _ hB1]; exact words_at hx 3 (by omega)
      have hcl : ∀ o, (wr.alloc o).cell? ⟨g, 0, none⟩ = some (.string ⟨l0.toArray⟩) := fun o => words_cell HH.out rfl (HBW.out.alloc (by omega) _)
      have HB0 := Lib.hid hB0
      have HB := Lib.hid hb
      clear hx hB1 hB0 hb
      unfold str at hc0 hc3
      have htl' : tl.length ≤ 3 := htl
      clear htl
      have hadd : IntKind.i64.wrap (1 + (tl.length : Int)) = 1 + (tl.length : Int) := IntWalk.i64_in _ (by omega)
      by_cases hm : n = l0 ∧ 0 = tl.length
      · obtain ⟨rfl, hrl⟩ := hm
        have htn : tl = [] := List.eq_nil_of_length_eq_zero hrl.symm
        subst htn
        have HRL := Lib.hid hrl
        clear hrl
        have hn2 : (n == n) = true := by simp
        obtain ⟨wo, rfl⟩ : ∃ wo : World, wo = wr := ⟨_, rfl⟩
        have HW0 : Hid (∀ nq, (((wo.alloc (.cells #[.string ⟨n.toArray⟩, .int .i64 kd, .bool sy, .string ⟨#[]⟩] 89)).drewN nq).alloc (.cells Z37 35)).heap[wo.heap.size + 1]? = some (.cells Z37 35 (0, 0))) := Lib.hid (fun nq => by
          rw [M.heap_alloc_if, if_pos (by simp [World.drewN])])
        have hadd2 : IntKind.i64.wrap 1 = 1 := by decide
        go_wp2
        go_quiet (fail)
        go_wp2_with (refine M.wpList_store_row rfl 35 _ _ rfl (wo.heap.size + 1) rfl 35 Z37 (O37 kd sy) rfl (HW0.out nq) info35 rfl (one_O37 _ _) ?_)
        clear hn2 hadd hcl hc0 hc1 hc2 hc3
        go_loopw [39] (fun i wi => i = .int .i64 0 ∧ wi.heap[wo.heap.size + 1]? = some (.cells (opCells { Tx.op0 with kind := kd, sync := sy }).toArray 35 (0, 0)) ∧
            Below (wo.heap.size + 1) (wo.alloc (.cells #[.string ⟨n.toArray⟩, .int .i64 kd, .bool sy, .string ⟨#[]⟩] 89)) wi) (fun _ _ => 0)
        case atStart =>
          refine ⟨rfl, (M.heap_setRow_same _ _ _ _ _ (HW0.out nq)).trans (by rw [O37_op]), ?_⟩
          exact M.below_setRow ((below_drewN _ nq _).alloc (by simp [World.drewN]) _) (Nat.le_refl _) _
        case round =>
          obtain ⟨rfl, hrow, hbi⟩ := hrel
          have HROW := Lib.hid hrow
          have HRES : Hid (wr.heap[w.heap.size]? = some (.cells Z37 35 (0, 0))) := Lib.hid (by
            rw [hbi.block _ (by omega), M.heap_alloc_if, if_neg (by omega)]; exact HB0.out)
          have HBW2 : Hid (Below w.heap.size w wr) := Lib.hid ((HBW.out.alloc (by omega) _).trans (hbi.mono (by omega)))
          have HF1 : Hid (Tx.operationF [n] = some { Tx.op0 with kind := kd, sync := sy }) := Lib.hid (by
            rw [op_found HX.out rfl]; rfl)
          clear hrow hbi
          go_wp2_with (first
            | (refine wpList_load_row rfl 35 _ rfl (wo.heap.size + 1) rfl 35 (opCells { Tx.op0 with kind := kd, sync := sy }).toArray (0, 0) _ HROW.out Tryd.underlying35 rfl info35 ?_)
            | (refine M.wpList_store_row rfl 35 _ _ rfl w.heap.size rfl 35 Z37 (opCells { Tx.op0 with kind := kd, sync := sy }).toArray rfl HRES.out info35 rfl (one_op _) ?_))
          refine bodyPost_ret (M.results_cell_tmp rfl _ _ w.heap.size 35 (opCells { Tx.op0 with kind := kd, sync := sy }).toArray (0, 0) _ rfl (M.heap_setRow_same _ _ _ _ _ HRES.out) Tryd.underlying35 rfl info35) rfl ?_
          refine ⟨M.below_setRow HBW2.out (Nat.le_refl _) _, ?_⟩
          rw [HF1.out]
          rfl
      · have HF : Hid (∀ (j : Nat) (x : Tx.Bytes × Int × Bool × Tx.Bytes), j < k + 1 → Tx.words[j]? = some x → (x.1 == l0 && 0 == x.2.2.2.length) = false) := Lib.hid fun j x hj hx => by
          by_cases e : j = k
          · subst e
            have := HX.out
            rw [this] at hx
            injection hx with hx
            subst hx
            simp only [Bool.and_eq_false_iff, beq_eq_false_iff_ne]
            by_cases e : n = l0
            · exact Or.inr fun e2 => hm ⟨e, e2⟩
            · exact Or.inl e
          · exact HA.out j x (by omega) hx
        have HQ : Hid (∀ o nq, Below (w.heap.size + 2) ((w.alloc (.cells Z37 35)).alloc (.cells wordCells 89)) ((wr.alloc o).drewN nq)) := Lib.hid fun o nq => (HB.out.alloc hsz _).trans (below_drewN _ _ _)
        by_cases hnl : n = l0
        · have hne : ¬ 0 = tl.length := fun e => hm ⟨hnl, e⟩
          have he2 : ((1 : Int) != 1 + (tl.length : Int)) = true := by simp; omega
          subst hnl
          have hn2 : (n == n) = true := by simp
          clear hm hne
          go_wp2
          go_quiet (fail)
          go_wp2
          go_roundw
          case rel => exact ⟨k + 1, by omega, by go_num, HF.out, HQ.out _ _⟩
          case measure => simp [intOf]; omega
        · have hn2 : (n == l0) = false := by simpa using hnl
          clear hm hnl
          go_wp2
          go_quiet (fail)
          go_wp2
          go_roundw
          case rel => exact ⟨k + 1, by omega, by go_num, HF.out, HQ.out _ _⟩
          case measure => simp [intOf]; omega
    · have hk13 : k = 13 := by omega
      have hB0 : wr.heap[w.heap.size]? = some (.cells Z37 35 (0, 0)) := by
        rw [hb.block _ (by omega), M.heap_alloc_if, if_neg (by simp), M.heap_alloc_if, if_pos rfl]
      have HB0 := Lib.hid hB0
      have HK := Lib.hid hk13
      clear hk13 hB0 hb
      go_wp2_with (refine M.wpList_store_row rfl 35 _ _ rfl w.heap.size rfl 35 Z37 Z37 rfl HB0.out info35 rfl one_Z37 ?_)
      refine bodyPost_ret (M.results_cell_tmp rfl _ _ w.heap.size 35 Z37 (0, 0) _ rfl (M.heap_setRow_same _ _ _ _ _ HB0.out) Tryd.underlying35 rfl info35) rfl ?_
      refine ⟨M.below_setRow HBW.out (Nat.le_refl _) _, ?_⟩
      rw [op_none fun j x hj hx => HA.out j x (by have := HK.out; omega) hx]
      rfl

/-- What text.operation answers. -/
theorem operation_any (g : Nat) (l : List Tx.Bytes) (w : World) (H : WordsAt w g l) (hl : l ≠ []) (L : Ld w) :
    Calls Tryd.prog 34 #[.slice (some ⟨g, 0, none⟩) l.length l.length] w (OpP (Tx.operationF l) w) := by
  match l, H with
  | [], _ => exact absurd rfl hl
  | [l0], H => exact operation_one g l0 w H L
  | l0 :: f :: r, H => exact operation_more g l0 (f :: r) w H L (by simp)

end Go.Proofs.YtjjlmhlfobmpgaaDoor
