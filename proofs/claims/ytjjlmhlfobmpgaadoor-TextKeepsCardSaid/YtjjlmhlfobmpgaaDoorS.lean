/-
Walks: text.Print.
-/
import Derived.Test.YtjjlmhlfobmpgaaDoorR
namespace Go.Proofs.YtjjlmhlfobmpgaaDoor
open Go.RowKit

/-- Steps in a row. -/
def StepsR (w : World) (v : Value) (l : List Tx.StepV) : Prop :=
  ∃ a c, v = .slice a l.length c ∧ (l ≠ [] → ∃ b o, a = some ⟨b, o, none⟩ ∧ ∀ (k : Nat) (x : Tx.StepV), l[k]? = some x → ∃ kv, w.rangeAt b (o + k * 42) (stepCells x kv) ∧ KeepR w kv x.keep)

theorem keep_one {w : World} {kv : Value} {l : List Int} (h : KeepR w kv l) : kv.oneCell' = true := by
  obtain ⟨a, c, rfl, _⟩ := h; rfl

theorem rangeAt_below {w w' : World} {b o : Nat} {cs : List Value} (h : w.rangeAt b o cs) (hb : Below w.heap.size w w') : w'.rangeAt b o cs := fun j v hv => by
  rw [hb.cell (p := ⟨b, o + j, none⟩) (World.block_lt_of_cell? _ _ (h j v hv))]; exact h j v hv

theorem StepsR.below {w w' : World} {v : Value} {l : List Tx.StepV} (h : StepsR w v l) (hb : Below w.heap.size w w') : StepsR w' v l := by
  obtain ⟨a, c, rfl, h⟩ := h
  refine ⟨a, c, rfl, fun hl => ?_⟩
  obtain ⟨b, o, rfl, h2⟩ := h hl
  exact ⟨b, o, rfl, fun k x hx => by obtain ⟨kv, h3, h4⟩ := h2 k x hx; exact ⟨kv, rangeAt_below h3 hb, h4.below hb⟩⟩

def printF (l : List Tx.StepV) : Tx.Bytes := l.flatMap Tx.lineF

theorem builderAt_below {T e : TypeId} {B b : Nat} {p : Value} {bs : List Value} {W W' : World} (h : Lib.BuilderAtF T e B b p bs W) (hb : Below W.heap.size W W') : Lib.BuilderAtF T e B b p bs W' := by
  have hlt := h.lt
  obtain ⟨hB, v, hv, hown, hne⟩ := h
  exact ⟨hB, v, (hb.block b hlt).trans hv, hown.kept (row := none) ⟨hb.os, hb.tape, hb.output, hb.size, fun k hk _ => hb.block k hk⟩ (Classical.em _), hne⟩
theorem builder_below {T e : TypeId} {B b : Nat} {bs : List Value} {W W' : World} (h : Lib.IsBuilderF T e B b bs W) (hb : Below W.heap.size W W') : Lib.IsBuilderF T e B b bs W' :=
  h.elim (fun x => .inl (builderAt_below x hb)) (fun x => .inr (builderAt_below x hb))

theorem printF_len {l : List Tx.StepV} (h : ∀ x ∈ l, StepOk2 x) : (printF l).length ≤ l.length * 30001 := by
  induction l with
  | nil => simp [printF]
  | cons x r ih =>
    have h1 := line_len (h x (by simp))
    have h2 := ih (fun y hy => h y (by simp [hy]))
    have h3 : (Tx.lineF x).length ≤ 30001 := by simp [Tx.lineF]; omega
    simp only [printF, List.flatMap_cons, List.length_append, List.length_cons] at h2 ⊢
    omega

set_option maxHeartbeats 4000000 in
set_option maxRecDepth 100000 in
/-- text.Print. -/
theorem print_any (v : Value) (l : List Tx.StepV) (w : World) (hv : StepsR w v l) (hl : l.length ≤ 1000) (ho : ∀ x ∈ l, StepOk2 x) (L : Ld w) :
    Calls Tryd.prog 18 #[v] w fun e w' => e = .returned (.string ⟨(printF l).toArray⟩) ∧ Below w.heap.size w w' := by
  have HV := Lib.hid hv
  obtain ⟨a, c, rfl, -⟩ := hv
  have HO := Lib.hid ho
  have HF := Lib.hid (freshF w)
  have HPL := Lib.hid (printF_len ho)
  clear ho
  go_enter Tryd.func18, Tryd.ntmps18
  go_wp2
  go_loopw [8] (fun i wr => ∃ k : Nat, k ≤ l.length ∧ i = .int .i64 k ∧ Lib.IsBuilderF 63 5 w.heap.size w.heap.size (Lib.byteCells (printF (l.take k))) wr ∧ Below w.heap.size w wr) (fun i _ => l.length - (intOf i).toNat)
  case atStart =>
    exact ⟨0, Nat.zero_le _, rfl, by simpa [printF, Lib.byteCells] using HF.out, below_new _ _⟩
  case round =>
    obtain ⟨k, hk, rfl, hbd, hb⟩ := hrel
    by_cases hlt : k < l.length
    · obtain ⟨x, hx⟩ : ∃ x, l[k]? = some x := ⟨_, List.getElem?_eq_getElem hlt⟩
      have hxl := List.mem_of_getElem? hx
      obtain ⟨a', c', hac, hh⟩ := HV.out
      obtain ⟨b, o, ha, hcells⟩ := hh (by intro e; rw [e] at hlt; simp at hlt)
      injection hac with hac1 hac2 hac3
      subst hac1
      subst ha
      obtain ⟨kv, hr, hkv⟩ := hcells k x hx
      have HR := Lib.hid (rangeAt_below hr hb)
      have HK := Lib.hid (hkv.below hb)
      have HX := Lib.hid (HO.out x hxl)
      have HSZ := Lib.hid (stepCells_len (kv := kv) HX.out.op.data)
      have HON := Lib.hid (one_step x kv (keep_one hkv))
      have LX := L.below hb
      have HBD := Lib.hid hbd
      have HB := Lib.hid hb
      have HXI := Lib.hid hx
      have hzr := hb.size
      have HN : Hid ((wr.alloc (.cells Z42 41)).heap[wr.heap.size]? = some (.cells Z42 41 (0, 0))) := Lib.hid (heap_alloc_new _ _)
      have HN2 : Hid (((wr.alloc (.cells Z42 41)).setRow wr.heap.size (stepCells x kv).toArray).heap[wr.heap.size]? = some (.cells (stepCells x kv).toArray 41 (0, 0))) := Lib.hid (M.heap_setRow_same _ _ _ _ _ HN.out)
      have HB3 : Hid (Below wr.heap.size wr ((wr.alloc (.cells Z42 41)).setRow wr.heap.size (stepCells x kv).toArray)) := Lib.hid (M.below_setRow (below_new _ _) (Nat.le_refl _) _)
      clear hr hkv hbd hb hx hcells hh hac2 hac3
      go_wp2_with (first
        | ((with_reducible show wpList _ _ _ ({ dst := _, op := Op.store 41 _ _, type := _, pos := _, after := _, guard := _ } :: _) _ _); refine M.wpList_store_row rfl 41 _ _ rfl wr.heap.size rfl 41 Z42 (stepCells x kv).toArray rfl HN.out (info41.trans (congrArg some HSZ.out.symm)) HSZ.out.symm HON.out ?_)
        | ((with_reducible show wpList _ _ _ ({ dst := _, op := Op.load 41 _, type := _, pos := _, after := _, guard := _ } :: _) _ _); first
            | (refine wpList_load_mid rfl 41 _ rfl b (o + k * 42) rfl (stepCells x kv) _ HR.out Tryd.underlying41 rfl (info41.trans (congrArg some (HSZ.out.symm.trans (by simp)))) ?_)
            | (refine wpList_load_row rfl 41 _ rfl wr.heap.size rfl 41 (stepCells x kv).toArray (0, 0) _ HN2.out Tryd.underlying41 rfl (info41.trans (congrArg some HSZ.out.symm)) ?_)))
      refine (line_any x kv _ HX.out (LX.below HB3.out) (HK.out.below HB3.out)).mono ?_
      rintro e w1 ⟨rfl, hb1⟩
      have hb2 := HB3.out.trans (hb1.mono HB3.out.size)
      have hbd1 := builder_below HBD.out hb2
      have hlt1 := builder_lt hbd1
      have hpl : (Lib.byteCells (printF (l.take k))).length ≤ 30001000 := by
        have := printF_len (l := l.take k) (fun y hy => HO.out y (List.mem_of_mem_take hy))
        simp only [Lib.byteCells, List.length_map]
        simp only [List.length_take] at this
        omega
      have hsl : (⟨(Lib.join (Tx.lineL x) [32] ++ [10]).toArray⟩ : ByteArray).size ≤ 30001 := by
        have := line_len HX.out
        have e : (⟨(Lib.join (Tx.lineL x) [32] ++ [10]).toArray⟩ : ByteArray).size = (Lib.join (Tx.lineL x) [32]).length + 1 := by simp [ByteArray.size]
        omega
      have HBC := Lib.hid (HB.out.trans (hb2.mono hzr))
      clear hb1 hb2
      go_wp2_with fail
      go_at_call 28
      refine (Tryd.Builder_WriteString_k w.heap.size w.heap.size _ _ _ hbd1 (by omega) (by omega)).mono ?_
      rintro e w2 ⟨rfl, hbd2, hb3, _⟩
      have HD2 := Lib.hid hbd2
      have HB4 := Lib.hid hb3
      clear hbd2 hbd1 hb3
      go_wp2
      go_roundw
      case rel =>
        refine ⟨k + 1, by omega, by go_num, ?_, HBC.out.trans HB4.out⟩
        have e : Lib.byteCells (printF (l.take (k + 1))) = Lib.byteCells (printF (l.take k)) ++ Lib.strCells ⟨(Lib.join (Tx.lineL x) [32] ++ [10]).toArray⟩ := by
          rw [List.take_add_one, HXI.out]
          simp [printF, Tx.lineF, Lib.byteCells, Lib.strCells]
        rw [e]
        exact Or.inr HD2.out
      case measure => simp [intOf]; omega
    · have hk2 : k = l.length := by omega
      have HK := Lib.hid hk2
      clear hk2
      have hlt2 := builder_lt hbd
      go_wp2_with fail
      go_at_call 29
      refine (Tryd.Builder_String_any_k w.heap.size w.heap.size _ _ hbd (by omega)).mono ?_
      rintro e w1 ⟨rfl, _, hb1, _⟩
      go_wp2
      go_ret
      exact ⟨ret_str (by rw [List.take_of_length_le]; have := HK.out; omega), hb.trans hb1⟩

end Go.Proofs.YtjjlmhlfobmpgaaDoor
