/-
Walks: text.crash, its list.
-/
import Derived.Test.YtjjlmhlfobmpgaaDoorJ
namespace Go.Proofs.YtjjlmhlfobmpgaaDoor
open Go.RowKit

theorem info3 : (Tryd.prog.info? 3).map (fun i => (i.zero, i.size, i.bytes)) = some (some (.int .i64 0), 1, 8) := by kernel_rfl
theorem info39 : (Tryd.prog.info? 39).map (·.size) = some 3 := by kernel_rfl

theorem one_own {w : World} {base : Nat} {e : TypeId} {size : Nat} {v : Value} {n : Nat} {xs : List Value} (h : w.ownsRow base e size v n xs) : v.oneCell' = true := by
  rcases h.2 with ⟨rfl, _⟩ | ⟨g, cap, cur, rfl, _⟩ <;> rfl

theorem one_lit (kv : Value) (u v2 : Int) (h : kv.oneCell' = true) :
    (#[.int .i64 0, .int .i64 0, .int .i64 0, .int .u8 0, .int .u8 0, .int .u8 0, .int .u8 0, .int .u8 0, .int .u8 0, .int .u8 0, .int .u8 0, .int .u8 0, .int .u8 0, .int .u8 0, .int .u8 0, .int .u8 0, .int .u8 0, .int .u8 0, .int .u8 0, .int .u8 0, .int .u8 0, .int .u8 0, .int .u8 0, .int .u8 0, .int .u8 0, .int .u8 0, .int .u8 0, .int .u8 0, .int .u8 0, .int .u8 0, .int .u8 0, .int .u8 0, .int .u8 0, .int .u8 0, .int .u8 0, .bool false, .int .i64 0, .int .i64 0, .bool true, kv, .int .u64 u, .int .i64 v2] : Array Value).all (·.oneCell') = true := by
  simp [h]
  simp [Value.oneCell']

theorem own_setRow {w : World} {base : Nat} {e : TypeId} {size : Nat} {v : Value} {n : Nat} {xs : List Value} (h : w.ownsRow base e size v n xs) {g : Nat} (hg : v.ownBlock ≠ some g) (cs : Array Value) :
    (w.setRow g cs).ownsRow base e size v n xs := by
  refine ⟨h.1, ?_⟩
  rcases h.2 with h2 | ⟨b, cap, cur, rfl, hb, hh, r⟩
  · exact .inl h2
  · exact .inr ⟨b, cap, cur, rfl, hb, (M.heap_setRow_other _ _ _ _ (fun e => hg (by simp [Value.ownBlock, e]))).trans hh, r⟩

theorem nums_snoc : ∀ (l : List Tx.Bytes) (f : Tx.Bytes) (ks : List Int) (n : Int), Tx.numsF l = some ks → Tx.numV f = some n → Tx.numsF (l ++ [f]) = some (ks ++ [n])
  | [], f, ks, n, h, hn => by simp [Tx.numsF] at h; subst h; simp [Tx.numsF, hn]
  | x :: r, f, ks, n, h, hn => by
    simp only [Tx.numsF] at h
    split at h
    · rename_i v t hv ht
      injection h with h
      subst h
      simp [Tx.numsF, hv, nums_snoc r f t n ht hn]
    · cases h

theorem nums_no : ∀ (l r : List Tx.Bytes) (f : Tx.Bytes), Tx.numV f = none → Tx.numsF (l ++ f :: r) = none
  | [], r, f, hn => by simp [Tx.numsF, hn]
  | x :: l, r, f, hn => by simp [Tx.numsF, nums_no l r f hn]

set_option maxHeartbeats 4000000 in
set_option maxRecDepth 100000 in
/-- The two numbers are read: the list. -/
theorem crash_go (g c : Nat) (a t : Tx.Bytes) (r : List Tx.Bytes) (w : World) (u : Nat) (v2 : Int) (H : WordsAt w g (a :: Lib.decDigits u :: t :: r)) (hcap : ¬ c = 3) (L : Ld w) (h : Lib.parseUintB 64 (Lib.decDigits u) = .ok u) (h2 : Tx.numV t = some v2) :
    Calls Tryd.prog 32 #[.slice (some ⟨g, 0, none⟩) (r.length + 3) c] w (StepP ((Tx.numsF r).map fun k => { Tx.step0 with crash := true, keep := k, soft := u, tear := v2 }) w) := by
  have h0 : (w.alloc (.cells Z42 41)).heap[w.heap.size]? = some (.cells Z42 41 (0, 0)) := heap_alloc_new w _
  have hb0 : Below w.heap.size w (w.alloc (.cells Z42 41)) := below_new _ _
  have hc1 : ∀ o, (w.alloc o).cell? ⟨g, 1, none⟩ = some (str (Lib.decDigits u)) := fun o => words_cell H rfl (below_new _ _)
  have L0 := L.alloc (.cells Z42 41)
  have hlen : ¬ ((r.length : Int) + 3 < 3) := by omega
  have h13 : (1 : Int) < (r.length : Int) + 3 := by omega
  have hu : u < 18446744073709551616 := parseB_lt h
  have HF := Lib.hid (fun w L => formatUint_any u w hu L)
  have HP := Lib.hid (fun w => parseUint_yes ⟨(Lib.decDigits u).toArray⟩ u w (str_size H (by simp)) (by simpa using h))
  have HN := Lib.hid (fun w L => number_yes ⟨t.toArray⟩ v2 w (str_size H (by simp)) (by simpa using h2) L)
  have HH := Lib.hid H
  have H0 := Lib.hid h0
  have HB0 := Lib.hid hb0
  have hfew := H.few
  have HC3 := Lib.hid hcap
  clear hcap
  simp only [List.length_cons] at hfew
  clear h0 h h2 H hb0 hu
  go_enter Tryd.func32, Tryd.ntmps32
  go_wp2_with fail
  go_at_call 44
  refine (HP.out _).mono ?_
  rintro e w1 ⟨rfl, hb1⟩
  have hb2 := HB0.out.trans (hb1.mono (HB0.out.size))
  have hc2 : w1.cell? ⟨g, 2, none⟩ = some (str t) := words_cell HH.out rfl hb2
  have L1 := L.below hb2
  have HB2 := Lib.hid hb2
  have H1 := Lib.hid ((hb1.block _ (by simp)).trans H0.out)
  clear hc1 L0 hb2 hb1
  go_wp2_with fail
  go_at_call 33
  refine (HN.out _ L1).mono ?_
  rintro e w2 ⟨rfl, hb3⟩
  have hb4 := HB2.out.trans (hb3.mono (HB2.out.size))
  have H2 := Lib.hid ((hb3.block _ (block_lt_of_heap H1.out)).trans H1.out)
  have HB4 := Lib.hid hb4
  clear hc2 L1 hb3 hb4
  go_wp2_with fail
  have hc3 : w2.cell? ⟨g, 1, none⟩ = some (.string ⟨(Lib.decDigits u).toArray⟩) := words_cell HH.out rfl HB4.out
  go_region_held3 (fun w' => w'.cell? ⟨g, 1, none⟩ = some (.string ⟨(Lib.decDigits u).toArray⟩) ∧ w'.heap[w.heap.size]? = some (.cells Z42 41 (0, 0)) ∧ Below w.heap.size w w')
    (first | exact ⟨hc3, H2.out, HB4.out.drew⟩ | assumption | exact no3_keep HH.out rfl (by assumption) (by assumption))
    ((first | (go_at_call 36; refine (HF.out _ (L.below ?_)).mono ?_; (simp [*]); rintro e w1 ⟨rfl, hb⟩)))
  case _ =>
    rename_i hS
    have HS := Lib.hid hS
    clear hS
    clear hb hc3
    have hcap := HC3.out
    have hr3 : r.length + 3 - 3 = r.length := by omega
    obtain ⟨i0, hi0, hz0, hz1, hz2⟩ := info_parts info3
    have hz3 : w.heap.size ≤ w1.heap.size := HS.out.2.2.size
    have hbwb : Below w1.heap.size w1 (w1.alloc (.cells #[.slice none 0 0, .int .u64 u, .int .i64 v2] 39)) := below_new _ _
    have hhwb : (w1.alloc (.cells #[.slice none 0 0, .int .u64 u, .int .i64 v2] 39)).heap[w1.heap.size]? = some (.cells #[.slice none 0 0, .int .u64 u, .int .i64 v2] 39 (0, 0)) := heap_alloc_new w1 _
    have HW1 := Lib.hid hbwb
    have HW2 := Lib.hid hhwb
    clear hbwb hhwb
    go_wp2
    go_loopw [10, 11, 12, 52] (fun _ _ _ i wr => ∃ (k : Nat) (kv : Value) (ks : List Int), k ≤ r.length ∧ i = .int .i64 k ∧ Tx.numsF (r.take k) = some ks ∧ ks.length = k ∧
        wr.heap[w1.heap.size]? = some (.cells #[kv, .int .u64 u, .int .i64 v2] 39 (0, 0)) ∧ wr.ownsRow (w1.heap.size + 1) 3 1 kv k (ks.map (.int .i64)) ∧ Below w1.heap.size w1 wr) (fun _ _ _ i _ => r.length - (intOf i).toNat)
    case atStart =>
      exact ⟨0, _, [], Nat.zero_le _, rfl, by simp [Tx.numsF], rfl, HW2.out, World.ownsRow_nil _ _ _ _, HW1.out⟩
    case round =>
      obtain ⟨k, kv, ks, hk, rfl, hks, hkl, hwb, hown, hbr⟩ := hrel
      by_cases hlt : k < r.length
      · obtain ⟨f, hf⟩ : ∃ f, r[k]? = some f := ⟨_, List.getElem?_eq_getElem hlt⟩
        have hbw : Below w.heap.size w wr := HS.out.2.2.trans (hbr.mono hz3)
        have hcell : wr.cell? ⟨g, 3 + k, none⟩ = some (str f) := words_cell (j := 3 + k) HH.out (by rw [show 3 + k = k + 1 + 1 + 1 by omega]; simpa using hf) hbw
        have LX := L.below hbw
        have HBW := Lib.hid hbw
        have hff : f ∈ a :: Lib.decDigits u :: t :: r := by simp [List.mem_of_getElem? hf]
        have hzr := hbr.size
        have HWB := Lib.hid hwb
        have HRZ := Lib.hid ((hbr.block _ (block_lt_of_heap HS.out.2.1)).trans HS.out.2.1)
        have HOWN := Lib.hid hown
        have HKS := Lib.hid hks
        have HF2 := Lib.hid hf
        have HKL := Lib.hid hkl
        have hwlt := block_lt_of_heap HS.out.2.1
        clear hwb hown hks hf hkl HF HP HN H0 HB0 HB2 H1 H2 HB4 HW1 HW2 L hbw
        cases hn : Tx.numV f with
        | none =>
          have HNo := Lib.hid hn
          clear hn
          go_wp2_with fail
          go_at_call 33
          refine (number_no ⟨f.toArray⟩ wr (str_size HH.out hff) (by simpa using HNo.out) LX).mono ?_
          rintro e wA ⟨vA, rfl, hbA⟩
          have HRA := Lib.hid ((hbA.block _ (block_lt_of_heap HRZ.out)).trans HRZ.out)
          have HBA := Lib.hid (HBW.out.trans (hbA.mono HBW.out.size))
          clear hcell hbA
          go_wp2_with (refine M.wpList_store_row rfl 41 _ _ rfl w.heap.size rfl 41 Z42 Z42 rfl HRA.out info41 rfl one_Z42 ?_)
          refine bodyPost_ret (M.results_cell_tmp rfl _ _ w.heap.size 41 Z42 (0, 0) _ rfl (M.heap_setRow_same _ _ _ _ _ HRA.out) Tryd.underlying41 rfl info41) rfl ?_
          have hno : Tx.numsF r = none := by
            rw [← List.take_append_drop k r, List.drop_eq_getElem_cons hlt]
            have := HF2.out
            rw [List.getElem?_eq_getElem hlt] at this
            injection this with this
            rw [this]
            exact nums_no _ _ _ HNo.out
          rw [hno]
          exact ⟨Z42, rfl, one_Z42, rfl, M.below_setRow HBA.out (Nat.le_refl _) _⟩
        | some n =>
          have HNo := Lib.hid hn
          clear hn
          go_wp2_with fail
          go_at_call 33
          refine (number_yes ⟨f.toArray⟩ n wr (str_size HH.out hff) (by simpa using HNo.out) LX).mono ?_
          rintro e wA ⟨rfl, hbA⟩
          have hwbA := (hbA.block _ (block_lt_of_heap HWB.out)).trans HWB.out
          have hltA := block_lt_of_heap hwbA
          have hltr := block_lt_of_heap HWB.out
          have hownA := M.own_below HOWN.out hbA
          have hcA : wA.cell? ⟨w1.heap.size, 0, none⟩ = some kv := by rw [cell_of_row wA _ _ _ _ _ hwbA]; rfl
          have hne : kv.ownBlock ≠ some w1.heap.size := fun e => by have := (hownA.lt _ e).1; omega
          have HWBA := Lib.hid hwbA
          have HZA := hbA.size
          clear hcell hwbA
          go_wp2_with (
            at_builtin
            refine wpList_append_own _ rfl _ _ 36 rfl (w1.heap.size + 1) 3 i0 _ 1 8 Tryd.underlying36 hi0 hz0 hz1 hz2 rfl (by decide) kv k _ rfl (hownA.alloc _) ⟨wA.heap.size, 0, none⟩ 1 1 [.int .i64 n] rfl rfl (cell_one_new _ _ _) (by simp [Value.oneCell']) (by unfold maxLen; omega) (by omega) (by simp; omega) ?_
            intro v1 wB hown1 hg1 _
            obtain ⟨gg, cap, rfl, hgg, -⟩ := hown1.form (by omega)
            have hwbB : wB.heap[w1.heap.size]? = some (.cells #[kv, .int .u64 u, .int .i64 v2] 39 (0, 0)) := ((hg1.block _ (by simp; omega) (Ne.symm hne)).trans ((M.heap_alloc_if _ _ _).trans (if_neg (by omega)))).trans HWBA.out
            have hfz : wB.frozen? ⟨w1.heap.size, 0, none⟩ = false := frozen_of_row _ _ _ _ _ hwbB
            have hcB : wB.cell? ⟨w1.heap.size, 0, none⟩ = some kv := (cell_of_row wB _ _ _ _ _ hwbB).trans rfl
            have HW := Lib.hid hown1
            have HWBB := Lib.hid hwbB
            clear hown1 hwbB hcA)
          go_roundw
          case rel =>
            refine ⟨k + 1, .slice (some ⟨gg, 0, none⟩) (k + 1) cap, ks ++ [n], by omega, by go_num, ?_, by simp [HKL.out], ?_, ?_, ?_⟩
            · rw [List.take_add_one, HF2.out]
              exact nums_snoc _ _ _ _ HKS.out HNo.out
            · exact heap_setCell_same _ _ _ _ _ _ HWBB.out
            · simpa using ownsRow_setCell_other HW.out (by simp [Value.ownBlock]; omega) _
            · exact (((hbr.trans (hbA.mono hzr)).alloc (by omega) _).grown hg1 (by simp; omega) (fun q hq => by have := (hownA.lt q hq).1; omega)).setCell (Nat.le_refl _) _
          case measure => simp [intOf]; omega
      · have hke : k = r.length := by omega
        subst hke
        rw [List.take_length] at hks
        have hbw : Below w.heap.size w wr := HS.out.2.2.trans (hbr.mono hz3)
        have HBW := Lib.hid hbw
        have HRZ := Lib.hid ((hbr.block _ (block_lt_of_heap HS.out.2.1)).trans HS.out.2.1)
        have HWB := Lib.hid hwb
        have HOWN := Lib.hid hown
        have HKS := Lib.hid hks
        have HKL := Lib.hid hkl
        have hov := one_own hown
        clear hwb hown hks hkl hbw HF HP HN H0 HB0 HB2 H1 H2 HB4 HW1 HW2 L
        go_wp2_with (first
          | (refine wpList_load_row rfl 39 _ rfl w1.heap.size rfl 39 #[kv, .int .u64 u, .int .i64 v2] (0, 0) _ HWB.out Tryd.underlying39 rfl info39 ?_)
          | (refine M.wpList_store_row rfl 41 _ _ rfl w.heap.size rfl 41 Z42 _ rfl HRZ.out info41 rfl (one_lit _ _ _ hov) ?_))
        refine bodyPost_ret (M.results_cell_tmp rfl _ _ w.heap.size 41 _ (0, 0) _ rfl (M.heap_setRow_same _ _ _ _ _ HRZ.out) Tryd.underlying41 rfl info41) rfl ?_
        rw [HKS.out]
        refine ⟨kv, rfl, ?_, M.below_setRow HBW.out (Nat.le_refl _) _⟩
        have h := M.own_base HOWN.out (base' := w.heap.size) (by omega)
        have h' := own_setRow h (g := w.heap.size) (fun e => by have := (HOWN.out.lt _ e).1; omega)
        exact M.own_eq (h' _) HKL.out.symm rfl

set_option maxHeartbeats 4000000 in
set_option maxRecDepth 100000 in
/-- The two numbers are read; no list. -/
theorem crash_go0 (g : Nat) (a t : Tx.Bytes) (w : World) (u : Nat) (v2 : Int) (H : WordsAt w g [a, Lib.decDigits u, t]) (L : Ld w) (h : Lib.parseUintB 64 (Lib.decDigits u) = .ok u) (h2 : Tx.numV t = some v2) :
    Calls Tryd.prog 32 #[.slice (some ⟨g, 0, none⟩) 3 3] w (StepP (some { Tx.step0 with crash := true, keep := [], soft := u, tear := v2 }) w) := by
  have h0 : (w.alloc (.cells Z42 41)).heap[w.heap.size]? = some (.cells Z42 41 (0, 0)) := heap_alloc_new w _
  have hb0 : Below w.heap.size w (w.alloc (.cells Z42 41)) := below_new _ _
  have hc1 : ∀ o, (w.alloc o).cell? ⟨g, 1, none⟩ = some (str (Lib.decDigits u)) := fun o => words_cell H rfl (below_new _ _)
  have L0 := L.alloc (.cells Z42 41)
  have hu : u < 18446744073709551616 := parseB_lt h
  have HF := Lib.hid (fun w L => formatUint_any u w hu L)
  have HP := Lib.hid (fun w => parseUint_yes ⟨(Lib.decDigits u).toArray⟩ u w (str_size H (by simp)) (by simpa using h))
  have HN := Lib.hid (fun w L => number_yes ⟨t.toArray⟩ v2 w (str_size H (by simp)) (by simpa using h2) L)
  have HH := Lib.hid H
  have H0 := Lib.hid h0
  have HB0 := Lib.hid hb0
  clear h0 h h2 H hb0 hu
  go_enter Tryd.func32, Tryd.ntmps32
  go_wp2_with fail
  go_at_call 44
  refine (HP.out _).mono ?_
  rintro e w1 ⟨rfl, hb1⟩
  have hb2 := HB0.out.trans (hb1.mono (HB0.out.size))
  have hc2 : w1.cell? ⟨g, 2, none⟩ = some (str t) := words_cell HH.out rfl hb2
  have L1 := L.below hb2
  have HB2 := Lib.hid hb2
  have H1 := Lib.hid ((hb1.block _ (by simp)).trans H0.out)
  clear hc1 L0 hb2 hb1
  go_wp2_with fail
  go_at_call 33
  refine (HN.out _ L1).mono ?_
  rintro e w2 ⟨rfl, hb3⟩
  have hb4 := HB2.out.trans (hb3.mono (HB2.out.size))
  have H2 := Lib.hid ((hb3.block _ (block_lt_of_heap H1.out)).trans H1.out)
  have HB4 := Lib.hid hb4
  clear hc2 L1 hb3 hb4
  go_wp2_with fail
  have hc3 : w2.cell? ⟨g, 1, none⟩ = some (.string ⟨(Lib.decDigits u).toArray⟩) := words_cell HH.out rfl HB4.out
  go_region_held3 (fun w' => w'.cell? ⟨g, 1, none⟩ = some (.string ⟨(Lib.decDigits u).toArray⟩) ∧ w'.heap[w.heap.size]? = some (.cells Z42 41 (0, 0)) ∧ Below w.heap.size w w')
    (first | exact ⟨hc3, H2.out, HB4.out.drew⟩ | assumption | exact no3_keep HH.out rfl (by assumption) (by assumption))
    ((first | (go_at_call 36; refine (HF.out _ (L.below ?_)).mono ?_; (simp [*]); rintro e w1 ⟨rfl, hb⟩)))
  case _ =>
    rename_i hS
    have HS := Lib.hid hS
    clear hS
    clear hb hc3
    have hz3 : w.heap.size ≤ w1.heap.size := HS.out.2.2.size
    have hbwb : Below w1.heap.size w1 (w1.alloc (.cells #[.slice none 0 0, .int .u64 u, .int .i64 v2] 39)) := below_new _ _
    have hhwb : (w1.alloc (.cells #[.slice none 0 0, .int .u64 u, .int .i64 v2] 39)).heap[w1.heap.size]? = some (.cells #[.slice none 0 0, .int .u64 u, .int .i64 v2] 39 (0, 0)) := heap_alloc_new w1 _
    have HW1 := Lib.hid hbwb
    have HW2 := Lib.hid hhwb
    clear hbwb hhwb
    go_wp2
    go_loopw [52] (fun i wr => i = .int .i64 0 ∧ wr = w1.alloc (.cells #[.slice none 0 0, .int .u64 u, .int .i64 v2] 39)) (fun _ _ => 0)
    case atStart => exact ⟨rfl, rfl⟩
    case round =>
      obtain ⟨rfl, rfl⟩ := hrel
      have HBW := Lib.hid (HS.out.2.2.trans (HW1.out.mono hz3))
      have HRZ := Lib.hid ((HW1.out.block _ (block_lt_of_heap HS.out.2.1)).trans HS.out.2.1)
      clear HF HP HN H0 HB0 HB2 H1 H2 HB4 L
      go_wp2_with (first
        | (refine wpList_load_row rfl 39 _ rfl w1.heap.size rfl 39 #[.slice none 0 0, .int .u64 u, .int .i64 v2] (0, 0) _ HW2.out Tryd.underlying39 rfl info39 ?_)
        | (refine M.wpList_store_row rfl 41 _ _ rfl w.heap.size rfl 41 Z42 _ rfl HRZ.out info41 rfl (one_lit _ _ _ rfl) ?_))
      refine bodyPost_ret (M.results_cell_tmp rfl _ _ w.heap.size 41 _ (0, 0) _ rfl (M.heap_setRow_same _ _ _ _ _ HRZ.out) Tryd.underlying41 rfl info41) rfl ?_
      exact ⟨.slice none 0 0, rfl, World.ownsRow_nil _ _ _ _, M.below_setRow HBW.out (Nat.le_refl _) _⟩

/-- What text.crash answers. -/
theorem crash_any (g : Nat) (l : List Tx.Bytes) (w : World) (H : WordsAt w g l) (L : Ld w) :
    Calls Tryd.prog 32 #[.slice (some ⟨g, 0, none⟩) l.length l.length] w (StepP (Tx.crashF l) w) := by
  match l, H with
  | [], H => exact crash_short g _ [] w (by simp) (by simp)
  | [a], H => exact crash_short g _ [a] w (by simp) (by simp)
  | [a, b], H => exact crash_short g _ [a, b] w (by simp) (by simp)
  | a :: s :: t :: r, H =>
    have hnone : (∀ v, Lib.parseUintB 64 s ≠ .ok v) → Tx.crashF (a :: s :: t :: r) = none := fun h => by
      have : Tx.softV s = none := by
        unfold Tx.softV
        split
        · rename_i u hu; exact absurd hu (h u)
        · rfl
      simp [Tx.crashF, this]
    cases hp : Lib.parseUintB 64 s with
    | ok u =>
      cases hn : Tx.numV t with
      | none =>
        have : Tx.crashF (a :: s :: t :: r) = none := by simp [Tx.crashF, hn]
        rw [this]
        exact crash_no2 g _ a s t r w H L u hp hn
      | some v =>
        by_cases hd : Lib.decDigits u = s
        · subst hd
          have hs : Tx.softV (Lib.decDigits u) = some u := by simp [Tx.softV, hp]
          cases r with
          | nil =>
            have : Tx.crashF [a, Lib.decDigits u, t] = some { Tx.step0 with crash := true, keep := [], soft := u, tear := v } := by simp [Tx.crashF, hs, hn, Tx.numsF]
            rw [this]
            exact crash_go0 g a t w u v H L hp hn
          | cons x r =>
            have : Tx.crashF (a :: Lib.decDigits u :: t :: x :: r) = (Tx.numsF (x :: r)).map fun k => { Tx.step0 with crash := true, keep := k, soft := u, tear := v } := by
              simp only [Tx.crashF, hs, hn]
              cases Tx.numsF (x :: r) <;> rfl
            rw [this]
            exact crash_go g _ a t (x :: r) w u v H (by simp) L hp hn
        · have hs : Tx.softV s = none := by simp [Tx.softV, hp, hd]
          have : Tx.crashF (a :: s :: t :: r) = none := by simp [Tx.crashF, hs]
          rw [this]
          exact crash_no3 g _ a s t r w H L u hp v hn hd
    | _ =>
      all_goals
        have hno : ∀ v, Lib.parseUintB 64 s ≠ .ok v := fun v e => by rw [hp] at e; cases e
        rw [hnone hno]
        exact crash_no1 g _ a s t r w H L hno

end Go.Proofs.YtjjlmhlfobmpgaaDoor
