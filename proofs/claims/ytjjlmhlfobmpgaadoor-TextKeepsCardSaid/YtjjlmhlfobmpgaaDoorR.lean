/-
Walks: text.Plain.
-/
import Derived.Test.YtjjlmhlfobmpgaaDoorQ2
namespace Go.Proofs.YtjjlmhlfobmpgaaDoor
open Go.RowKit

section
variable {P : Program}
theorem wpList_load_wanted {ops : Array Oper} {rest : List Oper} {o : Oper} {a : Act} {w : World} {Q : Exit → Act → World → Prop} (hgd : Region.wanted o (yielded ops a.tmps) = true) (ty : TypeId) (x : Operand) (ho : o.op = .load ty x)
    (g : Nat) (hx : a.eval x = .pointer (some ⟨g, 0, none⟩)) (t : TypeId) (cs : Array Value) (fr : Nat × Nat) (d : TypeDesc) (hg : w.heap[g]? = some (.cells cs t fr))
    (hu : P.underlying ty = some d) (hd : (match d with | .struct _ | .array _ _ => true | _ => false) = true) (hi : (P.info? ty).map (·.size) = some cs.size)
    (h : wpList P ops Q rest (a.put o.dst (.agg cs)) w) : wpList P ops Q (o :: rest) a w := by
  unfold wpList
  rw [if_pos hgd]
  exact Or.inl (wp_load_row ty x ho g hx t cs fr d hg hu hd hi h)
end

theorem stepCells_len {x : Tx.StepV} {kv : Value} (h : x.op.data.length = 32) : (stepCells x kv).toArray.size = 42 := by simp [stepCells, opCells, h]

theorem keepR_of_own {w : World} {base : Nat} {kv : Value} {l : List Int} (h : w.ownsRow base 3 1 kv l.length (l.map (.int .i64))) : KeepR w kv l := by
  rcases h.2 with ⟨rfl, hl⟩ | ⟨g, cap, cur, rfl, _⟩
  · refine ⟨none, 0, by rw [hl], fun hn => absurd (List.eq_nil_of_length_eq_zero hl) hn⟩
  · refine ⟨some ⟨g, 0, none⟩, cap, rfl, fun _ => ⟨g, 0, rfl, fun j v hj => ?_⟩⟩
    have := h.cells rfl j (.int .i64 v) (by simp [hj])
    rwa [Lib.add_plain] at this

set_option maxHeartbeats 4000000 in
set_option maxRecDepth 100000 in
/-- Is a step plain? It isn't read. -/
theorem plain_no (x : Tx.StepV) (kv : Value) (w : World) (hx : StepOk2 x) (L : Ld w) (hk : KeepR w kv x.keep) (hs : Tx.stepF (Lib.trimSuffix (Tx.lineF x) [10]) = none) :
    Calls Tryd.prog 17 #[.agg (stepCells x kv).toArray] w (SameP (Tx.plainF x) w) := by
  have H0 : Hid ((w.alloc (.cells (stepCells x kv).toArray 41)).heap[w.heap.size]? = some (.cells (stepCells x kv).toArray 41 (0, 0))) := Lib.hid (heap_alloc_new w _)
  have HB0 : Hid (Below w.heap.size w (w.alloc (.cells (stepCells x kv).toArray 41))) := Lib.hid (below_new _ _)
  have HSZ := Lib.hid (stepCells_len (kv := kv) hx.op.data)
  have HX := Lib.hid hx
  have HK := Lib.hid hk
  have L0 := L.below HB0.out
  have hlen : (Tx.lineF x).length ≤ 30001 := by have := line_len hx; simp [Tx.lineF]; omega
  have hlen2 : (Lib.trimSuffix (Tx.lineF x) [10]).length ≤ 30001 := by
    unfold Lib.trimSuffix
    split
    · simp; omega
    · exact hlen
  have HL := Lib.hid hlen
  have HL2 := Lib.hid hlen2
  have HF : Hid (Tx.plainF x = false) := Lib.hid (by unfold Tx.plainF; rw [hs])
  have HS := Lib.hid hs
  clear hx hk hlen hlen2 hs
  go_enter Tryd.func17, Tryd.ntmps17
  go_wp2_with ((with_reducible show wpList _ _ _ ({ dst := _, op := Op.load 41 _, type := _, pos := _, after := _, guard := _ } :: _) _ _); refine wpList_load_row rfl 41 _ rfl w.heap.size rfl 41 (stepCells x kv).toArray (0, 0) _ H0.out Tryd.underlying41 rfl (info41.trans (congrArg some HSZ.out.symm)) ?_)
  refine (line_any x kv _ HX.out L0 (HK.out.below HB0.out)).mono ?_
  rintro e w1 ⟨rfl, hb1⟩
  have HB1 := Lib.hid (HB0.out.trans (hb1.mono HB0.out.size))
  have H1 := Lib.hid ((hb1.block _ (block_lt_of_heap H0.out)).trans H0.out)
  clear hb1
  have hts : Calls Tryd.prog 25 #[.string ⟨(Tx.lineF x).toArray⟩, .string ⟨#[10]⟩] w1 fun e w' => e = .returned (.string ⟨(Lib.trimSuffix (Tx.lineF x) [10]).toArray⟩) ∧ w1 = w' :=
    (Tryd.strings_TrimSuffix ⟨(Tx.lineF x).toArray⟩ ⟨#[10]⟩ w1 (by have := HL.out; have e : (⟨(Tx.lineF x).toArray⟩ : ByteArray).size = (Tx.lineF x).length := by simp [ByteArray.size]
                                                                   omega)).mono fun e w' ⟨he, hw⟩ => ⟨he, hw.symm⟩
  have HT := Lib.hid hts
  clear hts
  go_wp2_with fail
  go_at_call 25
  refine HT.out.mono ?_
  rintro e w' ⟨rfl, rfl⟩
  go_wp2_with fail
  go_at_call 20
  refine (step_any _ w1 (by have := HL2.out; omega) (L.below HB1.out)).mono ?_
  intro e w2 hP
  rw [HS.out] at hP
  obtain ⟨cs, hcs, hone, rfl, hb2⟩ := hP
  have HCS := Lib.hid hcs
  have HON := Lib.hid hone
  have HN : Hid ((w2.alloc (.cells Z42 41)).heap[w2.heap.size]? = some (.cells Z42 41 (0, 0))) := Lib.hid (heap_alloc_new _ _)
  have HB2 := Lib.hid (HB1.out.trans (hb2.mono HB1.out.size))
  clear hcs hone hb2
  go_wp2_with ((with_reducible show wpList _ _ _ ({ dst := _, op := Op.store 41 _ _, type := _, pos := _, after := _, guard := _ } :: _) _ _); refine M.wpList_store_row rfl 41 _ _ rfl w2.heap.size rfl 41 Z42 cs rfl HN.out (info41.trans (congrArg some HCS.out.symm)) HCS.out.symm HON.out ?_)
  go_ret
  exact ⟨by rw [HF.out]; rfl, M.below_setRow (HB2.out.alloc HB2.out.size _) (HB2.out.size) _⟩

set_option maxHeartbeats 4000000 in
set_option maxRecDepth 100000 in
/-- Is a step plain? It is read. -/
theorem plain_yes (x y : Tx.StepV) (kv : Value) (w : World) (hx : StepOk2 x) (L : Ld w) (hk : KeepR w kv x.keep) (hs : Tx.stepF (Lib.trimSuffix (Tx.lineF x) [10]) = some y) (hy : y.op.data.length = 32) (hyk : y.keep.length ≤ 1000001) :
    Calls Tryd.prog 17 #[.agg (stepCells x kv).toArray] w (SameP (Tx.plainF x) w) := by
  have H0 : Hid ((w.alloc (.cells (stepCells x kv).toArray 41)).heap[w.heap.size]? = some (.cells (stepCells x kv).toArray 41 (0, 0))) := Lib.hid (heap_alloc_new w _)
  have HB0 : Hid (Below w.heap.size w (w.alloc (.cells (stepCells x kv).toArray 41))) := Lib.hid (below_new _ _)
  have HSZ := Lib.hid (stepCells_len (kv := kv) hx.op.data)
  have HX := Lib.hid hx
  have HK := Lib.hid hk
  have L0 := L.below HB0.out
  have hlen : (Tx.lineF x).length ≤ 30001 := by have := line_len hx; simp [Tx.lineF]; omega
  have hlen2 : (Lib.trimSuffix (Tx.lineF x) [10]).length ≤ 30001 := by
    unfold Lib.trimSuffix
    split
    · simp; omega
    · exact hlen
  have HL := Lib.hid hlen
  have HL2 := Lib.hid hlen2
  have HF : Hid (Tx.plainF x = Tx.sameF x y) := Lib.hid (by unfold Tx.plainF; rw [hs])
  have HS := Lib.hid hs
  have HY := Lib.hid hy
  clear hx hk hlen hlen2 hs hy
  go_enter Tryd.func17, Tryd.ntmps17
  go_wp2_with ((with_reducible show wpList _ _ _ ({ dst := _, op := Op.load 41 _, type := _, pos := _, after := _, guard := _ } :: _) _ _); refine wpList_load_row rfl 41 _ rfl w.heap.size rfl 41 (stepCells x kv).toArray (0, 0) _ H0.out Tryd.underlying41 rfl (info41.trans (congrArg some HSZ.out.symm)) ?_)
  refine (line_any x kv _ HX.out L0 (HK.out.below HB0.out)).mono ?_
  rintro e w1 ⟨rfl, hb1⟩
  have HB1 := Lib.hid (HB0.out.trans (hb1.mono HB0.out.size))
  have H1 := Lib.hid ((hb1.block _ (block_lt_of_heap H0.out)).trans H0.out)
  clear hb1
  have hts : Calls Tryd.prog 25 #[.string ⟨(Tx.lineF x).toArray⟩, .string ⟨#[10]⟩] w1 fun e w' => e = .returned (.string ⟨(Lib.trimSuffix (Tx.lineF x) [10]).toArray⟩) ∧ w1 = w' :=
    (Tryd.strings_TrimSuffix ⟨(Tx.lineF x).toArray⟩ ⟨#[10]⟩ w1 (by have := HL.out; have e : (⟨(Tx.lineF x).toArray⟩ : ByteArray).size = (Tx.lineF x).length := by simp [ByteArray.size]
                                                                   omega)).mono fun e w' ⟨he, hw⟩ => ⟨he, hw.symm⟩
  have HT := Lib.hid hts
  clear hts
  go_wp2_with fail
  go_at_call 25
  refine HT.out.mono ?_
  rintro e w' ⟨rfl, rfl⟩
  go_wp2_with fail
  go_at_call 20
  refine (step_any _ w1 (by have := HL2.out; omega) (L.below HB1.out)).mono ?_
  intro e w2 hP
  rw [HS.out] at hP
  obtain ⟨k2, rfl, hown, hb2⟩ := hP
  have hlt1 := block_lt_of_heap H1.out
  have hB2 := HB1.out.trans (hb2.mono HB1.out.size)
  have hlt2 : w.heap.size < w2.heap.size := by have := hb2.size; omega
  have HB2 := Lib.hid hB2
  have HCS := Lib.hid (stepCells_len (kv := k2) HY.out)
  have HON := Lib.hid (one_step y k2 (one_own hown))
  have HN : Hid ((w2.alloc (.cells Z42 41)).heap[w2.heap.size]? = some (.cells Z42 41 (0, 0))) := Lib.hid (heap_alloc_new _ _)
  have HN2 : Hid (((w2.alloc (.cells Z42 41)).setRow w2.heap.size (stepCells y k2).toArray).heap[w2.heap.size]? = some (.cells (stepCells y k2).toArray 41 (0, 0))) := Lib.hid (M.heap_setRow_same _ _ _ _ _ HN.out)
  have HB3 : Hid (Below w2.heap.size w2 ((w2.alloc (.cells Z42 41)).setRow w2.heap.size (stepCells y k2).toArray)) := Lib.hid (M.below_setRow (below_new _ _) (Nat.le_refl _) _)
  have HN1 : Hid (((w2.alloc (.cells Z42 41)).setRow w2.heap.size (stepCells y k2).toArray).heap[w.heap.size]? = some (.cells (stepCells x kv).toArray 41 (0, 0))) := Lib.hid ((HB3.out.block _ hlt2).trans ((hb2.block _ hlt1).trans H1.out))
  have HSA := Lib.hid (same_any x y kv k2 ((w2.alloc (.cells Z42 41)).setRow w2.heap.size (stepCells y k2).toArray) HX.out.op.data HY.out (HK.out.below (hB2.trans (HB3.out.mono hB2.size)))
    ((keepR_of_own hown).below HB3.out) (Nat.le_trans HX.out.few (by omega)) hyk)
  clear hown hb2 hB2
  go_wp2_with (first
    | ((with_reducible show wpList _ _ _ ({ dst := _, op := Op.store 41 _ _, type := _, pos := _, after := _, guard := _ } :: _) _ _); refine M.wpList_store_row rfl 41 _ _ rfl w2.heap.size rfl 41 Z42 (stepCells y k2).toArray rfl HN.out (info41.trans (congrArg some HCS.out.symm)) HCS.out.symm HON.out ?_)
    | ((with_reducible show wpList _ _ _ ({ dst := _, op := Op.load 41 _, type := _, pos := _, after := _, guard := _ } :: _) _ _); first
        | (refine wpList_load_wanted rfl 41 _ rfl w.heap.size rfl 41 (stepCells x kv).toArray (0, 0) _ HN1.out Tryd.underlying41 rfl (info41.trans (congrArg some HSZ.out.symm)) ?_)
        | (refine wpList_load_wanted rfl 41 _ rfl w2.heap.size rfl 41 (stepCells y k2).toArray (0, 0) _ HN2.out Tryd.underlying41 rfl (info41.trans (congrArg some HCS.out.symm)) ?_))
    | (go_at_call 27; refine HSA.out.mono ?_; rintro e w3 ⟨rfl, hb3⟩))
  go_ret
  exact ⟨by rw [HF.out]; rfl, HB2.out.trans ((HB3.out.trans (hb3.mono HB3.out.size)).mono HB2.out.size)⟩

theorem plain_any (x : Tx.StepV) (kv : Value) (w : World) (hx : StepOk2 x) (L : Ld w) (hk : KeepR w kv x.keep) :
    Calls Tryd.prog 17 #[.agg (stepCells x kv).toArray] w (SameP (Tx.plainF x) w) := by
  cases hs : Tx.stepF (Lib.trimSuffix (Tx.lineF x) [10]) with
  | none => exact plain_no x kv w hx L hk hs
  | some y =>
    have hl := Tx.splitS_len (Lib.trimSuffix (Tx.lineF x) [10])
    have hlen : (Lib.trimSuffix (Tx.lineF x) [10]).length ≤ 30001 := by
      have := line_len hx
      have h2 : (Tx.lineF x).length ≤ 30001 := by simp [Tx.lineF]; omega
      unfold Lib.trimSuffix
      split
      · simp; omega
      · exact h2
    exact plain_yes x y kv w hx L hk hs (Tx.step_data hs) (Nat.le_trans (Tx.step_keep hs) (by omega))

end Go.Proofs.YtjjlmhlfobmpgaaDoor
