/-
Walks: text.crash.
-/
import Derived.Test.YtjjlmhlfobmpgaaDoorI3
import Derived.Test.YtjjlmhlfobmpgaaDoorC
import Derived.BigQuiet
namespace Go.Proofs.YtjjlmhlfobmpgaaDoor
open Go.RowKit

/-- Words in a block of their own. -/
structure WordsAt (w : World) (g : Nat) (l : List Tx.Bytes) : Prop where
  at_ : ∀ (j : Nat) (x : Tx.Bytes), l[j]? = some x → w.cell? ⟨g, j, none⟩ = some (str x)
  few : l.length ≤ 1000001
  short : ∀ x ∈ l, x.length ≤ 1000000

/-- What a step's reader answers. -/
def StepP (o : Option Tx.StepV) (w : World) (e : Ending) (w' : World) : Prop :=
  match o with
  | some x => ∃ kv, e = .returned (.tuple #[.agg (stepCells x kv).toArray, .bool true]) ∧ w'.ownsRow w.heap.size 3 1 kv x.keep.length (x.keep.map (.int .i64)) ∧ Below w.heap.size w w'
  | none => ∃ cs : Array Value, cs.size = 42 ∧ cs.all (·.oneCell') = true ∧ e = .returned (.tuple #[.agg cs, .bool false]) ∧ Below w.heap.size w w'

def Z42 : Array Value := #[.int .i64 0, .int .i64 0, .int .i64 0, .int .u8 0, .int .u8 0, .int .u8 0, .int .u8 0, .int .u8 0, .int .u8 0, .int .u8 0, .int .u8 0, .int .u8 0, .int .u8 0, .int .u8 0, .int .u8 0, .int .u8 0, .int .u8 0, .int .u8 0, .int .u8 0, .int .u8 0, .int .u8 0, .int .u8 0, .int .u8 0, .int .u8 0, .int .u8 0, .int .u8 0, .int .u8 0, .int .u8 0, .int .u8 0, .int .u8 0, .int .u8 0, .int .u8 0, .int .u8 0, .int .u8 0, .int .u8 0, .bool false, .int .i64 0, .int .i64 0, .bool false, .slice none 0 0, .int .u64 0, .int .i64 0]
theorem one_Z42 : Z42.all (·.oneCell') = true := by kernel_rfl
theorem size_Z42 : Z42.size = 42 := rfl
theorem info41 : (Tryd.prog.info? 41).map (·.size) = some 42 := by kernel_rfl

set_option maxHeartbeats 4000000 in
set_option maxRecDepth 100000 in
theorem crash_short (g c : Nat) (l : List Tx.Bytes) (w : World) (h : l.length < 3) (h1 : (l.length : Int) < 3) :
    Calls Tryd.prog 32 #[.slice (some ⟨g, 0, none⟩) l.length c] w (StepP none w) := by
  have HX := Lib.hid h
  clear h
  have h0 : (w.alloc (.cells Z42 41)).heap[w.heap.size]? = some (.cells Z42 41 (0, 0)) := heap_alloc_new w _
  have H0 := Lib.hid h0
  clear h0
  go_enter Tryd.func32, Tryd.ntmps32
  go_wp2_with (refine M.wpList_store_row rfl 41 _ _ rfl w.heap.size rfl 41 Z42 Z42 rfl H0.out info41 rfl one_Z42 ?_)
  refine bodyPost_ret (M.results_cell_tmp rfl _ _ w.heap.size 41 Z42 (0, 0) _ rfl (M.heap_setRow_same _ _ _ _ _ H0.out) Tryd.underlying41 rfl info41) rfl ?_
  exact ⟨Z42, rfl, one_Z42, rfl, M.below_setRow ((Below.refl _ _).alloc (Nat.le_refl _) _) (Nat.le_refl _) _⟩

theorem number_any (s : ByteArray) (w : World) (hs : s.size ≤ 140737488355328) (L : Ld w) :
    Calls Tryd.prog 33 #[.string s] w fun e w' => ∃ v b, e = .returned (.tuple #[.int .i64 v, .bool b]) ∧ Below w.heap.size w w' := by
  cases h : Tx.numV s.data.toList with
  | none => exact (number_no s w hs h L).mono fun e w' ⟨v, he, hb⟩ => ⟨v, false, he, hb⟩
  | some v => exact (number_yes s v w hs h L).mono fun e w' ⟨he, hb⟩ => ⟨v, true, he, hb⟩

theorem block_lt_of_heap {w : World} {g : Nat} {o : Obj} (h : w.heap[g]? = some o) : g < w.heap.size := (Array.getElem?_eq_some_iff.1 h).1

theorem words_cell {w w' : World} {g : Nat} {l : List Tx.Bytes} {j : Nat} {x : Tx.Bytes} (H : WordsAt w g l) (hj : l[j]? = some x) (hb : Below w.heap.size w w') : w'.cell? ⟨g, j, none⟩ = some (str x) := by
  rw [hb.cell (p := ⟨g, j, none⟩) (World.block_lt_of_cell? _ _ (H.at_ j x hj))]; exact H.at_ j x hj

theorem str_size {l : List Tx.Bytes} {w : World} {g : Nat} {x : Tx.Bytes} (H : WordsAt w g l) (hx : x ∈ l) : (⟨x.toArray⟩ : ByteArray).size ≤ 140737488355328 := by
  have := H.short x hx
  have e : (⟨x.toArray⟩ : ByteArray).size = x.length := by simp [ByteArray.size]
  omega

set_option maxHeartbeats 4000000 in
set_option maxRecDepth 100000 in
/-- The soft number can't be read. -/
theorem crash_no1 (g c : Nat) (a s t : Tx.Bytes) (r : List Tx.Bytes) (w : World) (H : WordsAt w g (a :: s :: t :: r)) (L : Ld w) (h : ∀ v, Lib.parseUintB 64 s ≠ .ok v) :
    Calls Tryd.prog 32 #[.slice (some ⟨g, 0, none⟩) (r.length + 3) c] w (StepP none w) := by
  have h0 : (w.alloc (.cells Z42 41)).heap[w.heap.size]? = some (.cells Z42 41 (0, 0)) := heap_alloc_new w _
  have hb0 : Below w.heap.size w (w.alloc (.cells Z42 41)) := below_new _ _
  have hc1 : ∀ o, (w.alloc o).cell? ⟨g, 1, none⟩ = some (str s) := fun o => words_cell H rfl (below_new _ _)
  have L0 := L.alloc (.cells Z42 41)
  have hlen : ¬ ((r.length : Int) + 3 < 3) := by omega
  have HP := Lib.hid (fun w L => parseUint_no ⟨s.toArray⟩ w (str_size H (by simp)) (by simpa using h) L)
  have HN := Lib.hid (fun w L => number_any ⟨t.toArray⟩ w (str_size H (by simp)) L)
  have HH := Lib.hid H
  have H0 := Lib.hid h0
  have HB0 := Lib.hid hb0
  clear h0 h H hb0
  go_enter Tryd.func32, Tryd.ntmps32
  go_wp2_with fail
  go_at_call 44
  refine (HP.out _ L0).mono ?_
  rintro e w1 ⟨v1, p1, rfl, hb1⟩
  have hb2 := HB0.out.trans (hb1.mono (HB0.out.size))
  have hc2 : w1.cell? ⟨g, 2, none⟩ = some (str t) := words_cell HH.out rfl hb2
  have L1 := L.below hb2
  have HB2 := Lib.hid hb2
  have H1 := Lib.hid ((hb1.block _ (by simp)).trans H0.out)
  clear hc1 L0 hb2 hb1
  go_wp2_with fail
  go_at_call 33
  refine (HN.out _ L1).mono ?_
  rintro e w2 ⟨v2, b2, rfl, hb3⟩
  have hb4 := HB2.out.trans (hb3.mono (HB2.out.size))
  have H2 := Lib.hid ((hb3.block _ (block_lt_of_heap H1.out)).trans H1.out)
  have HB4 := Lib.hid hb4
  clear hc2 L1 hb3 hb4
  go_wp2_with fail
  go_quiet (fail)
  go_wp2_with (refine M.wpList_store_row rfl 41 _ _ rfl w.heap.size rfl 41 Z42 Z42 rfl H2.out info41 rfl one_Z42 ?_)
  refine bodyPost_ret (M.results_cell_tmp rfl _ _ w.heap.size 41 Z42 (0, 0) _ rfl (M.heap_setRow_same _ _ _ _ _ H2.out) Tryd.underlying41 rfl info41) rfl ?_
  exact ⟨Z42, rfl, one_Z42, rfl, M.below_setRow (HB4.out.trans (below_drewN _ _ _)) (Nat.le_refl _) _⟩

theorem parseB_lt {s : Tx.Bytes} {u : Nat} (h : Lib.parseUintB 64 s = .ok u) : u < 18446744073709551616 := by
  rw [Lib.parseUintB_64] at h
  exact Lib.parseMag_lt h

theorem no3_keep {w w1 w2 : World} {g : Nat} {l : List Tx.Bytes} {s : Tx.Bytes} (H : WordsAt w g l) (hs : l[1]? = some s)
    (h : w1.cell? ⟨g, 1, none⟩ = some (.string ⟨s.toArray⟩) ∧ w1.heap[w.heap.size]? = some (.cells Z42 41 (0, 0)) ∧ Below w.heap.size w w1) (hb : Below w1.heap.size w1 w2) :
    w2.cell? ⟨g, 1, none⟩ = some (.string ⟨s.toArray⟩) ∧ w2.heap[w.heap.size]? = some (.cells Z42 41 (0, 0)) ∧ Below w.heap.size w w2 := by
  have h3 := h.2.2.trans (hb.mono h.2.2.size)
  exact ⟨words_cell H hs h3, (hb.block _ (block_lt_of_heap h.2.1)).trans h.2.1, h3⟩

set_option maxHeartbeats 4000000 in
set_option maxRecDepth 100000 in
/-- The torn sectors' number can't be read. -/
theorem crash_no2 (g c : Nat) (a s t : Tx.Bytes) (r : List Tx.Bytes) (w : World) (H : WordsAt w g (a :: s :: t :: r)) (L : Ld w) (u : Nat) (h : Lib.parseUintB 64 s = .ok u) (h2 : Tx.numV t = none) :
    Calls Tryd.prog 32 #[.slice (some ⟨g, 0, none⟩) (r.length + 3) c] w (StepP none w) := by
  have h0 : (w.alloc (.cells Z42 41)).heap[w.heap.size]? = some (.cells Z42 41 (0, 0)) := heap_alloc_new w _
  have hb0 : Below w.heap.size w (w.alloc (.cells Z42 41)) := below_new _ _
  have hc1 : ∀ o, (w.alloc o).cell? ⟨g, 1, none⟩ = some (str s) := fun o => words_cell H rfl (below_new _ _)
  have L0 := L.alloc (.cells Z42 41)
  have hlen : ¬ ((r.length : Int) + 3 < 3) := by omega
  have HP := Lib.hid (fun w => parseUint_yes ⟨s.toArray⟩ u w (str_size H (by simp)) (by simpa using h))
  have HN := Lib.hid (fun w L => number_no ⟨t.toArray⟩ w (str_size H (by simp)) (by simpa using h2) L)
  have HH := Lib.hid H
  have H0 := Lib.hid h0
  have HB0 := Lib.hid hb0
  clear h0 h h2 H hb0
  go_enter Tryd.func32, Tryd.ntmps32
  go_wp2_with fail
  go_at_call 44
  refine (HP.out _).mono ?_
  rintro e w1 ⟨rfl, hb1⟩
  have hb2 := HB0.out.trans (hb1.mono (HB0.out.size))
  have hc2 : w1.cell? ⟨g, 2, none⟩ = some (str t) := words_cell HH.out rfl hb2
  have L1 := L.below hb2
  have HB2 := Lib.hid hb2
  have H1 := Lib.hid ((hb1.block _ (by simp)).trans H0.out)
  clear hc1 L0 hb2 hb1
  go_wp2_with fail
  go_at_call 33
  refine (HN.out _ L1).mono ?_
  rintro e w2 ⟨v2, rfl, hb3⟩
  have hb4 := HB2.out.trans (hb3.mono (HB2.out.size))
  have H2 := Lib.hid ((hb3.block _ (block_lt_of_heap H1.out)).trans H1.out)
  have HB4 := Lib.hid hb4
  clear hc2 L1 hb3 hb4
  go_wp2_with fail
  go_quiet (fail)
  go_wp2_with (refine M.wpList_store_row rfl 41 _ _ rfl w.heap.size rfl 41 Z42 Z42 rfl H2.out info41 rfl one_Z42 ?_)
  refine bodyPost_ret (M.results_cell_tmp rfl _ _ w.heap.size 41 Z42 (0, 0) _ rfl (M.heap_setRow_same _ _ _ _ _ H2.out) Tryd.underlying41 rfl info41) rfl ?_
  exact ⟨Z42, rfl, one_Z42, rfl, M.below_setRow (HB4.out.trans (below_drewN _ _ _)) (Nat.le_refl _) _⟩

set_option maxHeartbeats 4000000 in
set_option maxRecDepth 100000 in
/-- The soft number isn't as it would be printed. -/
theorem crash_no3 (g c : Nat) (a s t : Tx.Bytes) (r : List Tx.Bytes) (w : World) (H : WordsAt w g (a :: s :: t :: r)) (L : Ld w) (u : Nat) (h : Lib.parseUintB 64 s = .ok u) (v2 : Int) (h2 : Tx.numV t = some v2) (h3 : Lib.decDigits u ≠ s) :
    Calls Tryd.prog 32 #[.slice (some ⟨g, 0, none⟩) (r.length + 3) c] w (StepP none w) := by
  have h0 : (w.alloc (.cells Z42 41)).heap[w.heap.size]? = some (.cells Z42 41 (0, 0)) := heap_alloc_new w _
  have hb0 : Below w.heap.size w (w.alloc (.cells Z42 41)) := below_new _ _
  have hc1 : ∀ o, (w.alloc o).cell? ⟨g, 1, none⟩ = some (str s) := fun o => words_cell H rfl (below_new _ _)
  have L0 := L.alloc (.cells Z42 41)
  have hlen : ¬ ((r.length : Int) + 3 < 3) := by omega
  have HP := Lib.hid (fun w => parseUint_yes ⟨s.toArray⟩ u w (str_size H (by simp)) (by simpa using h))
  have HN := Lib.hid (fun w L => number_yes ⟨t.toArray⟩ v2 w (str_size H (by simp)) (by simpa using h2) L)
  have HH := Lib.hid H
  have H0 := Lib.hid h0
  have HB0 := Lib.hid hb0
  clear h0 h2 H hb0
  have hu : u < 18446744073709551616 := parseB_lt h
  have h13 : (1 : Int) < (r.length : Int) + 3 := by omega
  have HF := Lib.hid (fun w L => formatUint_any u w hu L)
  have hbne : (Lib.decDigits u == s) = false := by simpa using h3
  clear h h3 hu
  go_enter Tryd.func32, Tryd.ntmps32
  go_wp2_with fail
  go_at_call 44
  refine (HP.out _).mono ?_
  rintro e w1 ⟨rfl, hb1⟩
  have hb2 := HB0.out.trans (hb1.mono (HB0.out.size))
  have hc2 : w1.cell? ⟨g, 2, none⟩ = some (str t) := words_cell HH.out rfl hb2
  have L1 := L.below hb2
  have HB2 := Lib.hid hb2
  have H1 := Lib.hid ((hb1.block _ (by simp)).trans H0.out)
  clear hc1 L0 hb2 hb1
  go_wp2_with fail
  go_at_call 33
  refine (HN.out _ L1).mono ?_
  rintro e w2 ⟨rfl, hb3⟩
  have hb4 := HB2.out.trans (hb3.mono (HB2.out.size))
  have H2 := Lib.hid ((hb3.block _ (block_lt_of_heap H1.out)).trans H1.out)
  have HB4 := Lib.hid hb4
  clear hc2 L1 hb3 hb4
  go_wp2_with fail
  have hc3 : w2.cell? ⟨g, 1, none⟩ = some (.string ⟨s.toArray⟩) := words_cell HH.out rfl HB4.out
  have L2 := L.below HB4.out
  go_region_held3 (fun w' => w'.cell? ⟨g, 1, none⟩ = some (.string ⟨s.toArray⟩) ∧ w'.heap[w.heap.size]? = some (.cells Z42 41 (0, 0)) ∧ Below w.heap.size w w')
    (first | exact ⟨hc3, H2.out, HB4.out.drew⟩ | assumption | exact no3_keep HH.out rfl (by assumption) (by assumption))
    ((first | (go_at_call 36; refine (HF.out _ (L.below ?_)).mono ?_; (simp [*]); rintro e w1 ⟨rfl, hb⟩)))
  case _ =>
    rename_i hS
    have HS := Lib.hid hS
    clear hS
    go_wp2_with (refine M.wpList_store_row rfl 41 _ _ rfl w.heap.size rfl 41 Z42 Z42 rfl HS.out.2.1 info41 rfl one_Z42 ?_)
    refine bodyPost_ret (M.results_cell_tmp rfl _ _ w.heap.size 41 Z42 (0, 0) _ rfl (M.heap_setRow_same _ _ _ _ _ HS.out.2.1) Tryd.underlying41 rfl info41) rfl ?_
    exact ⟨Z42, rfl, one_Z42, rfl, M.below_setRow HS.out.2.2 (Nat.le_refl _) _⟩

end Go.Proofs.YtjjlmhlfobmpgaaDoor
