/-
Walks: windrowref25.Line of a plain crash.
-/
import Derived.Test.YtjjlmhlfobmpgaaDoorV3
import Derived.Deep.RegionWith
namespace Go.Proofs.YtjjlmhlfobmpgaaDoor
open Go.RowKit

theorem LineW.keepB {x : Tx.StepV} {kv : Value} {w W W' : World} (h : LineW x kv w W) (hb : Below W.heap.size W W') : LineW x kv w W' where
  range := rangeAt_below h.range hb
  arm := by rw [hb.cell (World.block_lt_of_cell? _ _ h.arm)]; exact h.arm
  crash := by rw [hb.cell (World.block_lt_of_cell? _ _ h.crash)]; exact h.crash
  keep := by rw [hb.cell (World.block_lt_of_cell? _ _ h.keep)]; exact h.keep
  soft := by rw [hb.cell (World.block_lt_of_cell? _ _ h.soft)]; exact h.soft
  tear := by rw [hb.cell (World.block_lt_of_cell? _ _ h.tear)]; exact h.tear
  box := (hb.block _ (block_lt_of_heap h.box)).trans h.box
  zero := (hb.block _ (block_lt_of_heap h.zero)).trans h.zero
  below := h.below.trans (hb.mono h.below.size)

theorem LineW.drewB {x : Tx.StepV} {kv : Value} {w W : World} (h : LineW x kv w W) : LineW x kv w W.drew :=
  h.keepB (below_drewN W 1 _)

theorem ckeep {x : Tx.StepV} {kv : Value} {w W W' : World} {s t : Value} (h : W.cell? ⟨w.heap.size, 40, none⟩ = some s ∧ W.cell? ⟨w.heap.size, 41, none⟩ = some t ∧ LineW x kv w W) (hb : Below W.heap.size W W') :
    W'.cell? ⟨w.heap.size, 40, none⟩ = some s ∧ W'.cell? ⟨w.heap.size, 41, none⟩ = some t ∧ LineW x kv w W' :=
  ⟨by rw [hb.cell (World.block_lt_of_cell? _ _ h.1)]; exact h.1, by rw [hb.cell (World.block_lt_of_cell? _ _ h.2.1)]; exact h.2.1, h.2.2.keepB hb⟩

theorem refKeep_snoc : ∀ (l : List Int) (s t : Tx.Bytes) (n : Int), Tx.refKeep l s = some t → Tx.refKeep (l ++ [n]) s = if Tx.fits n then some (t ++ [32] ++ Lib.decDigits n.toNat) else none
  | [], s, t, n, h => by simp [Tx.refKeep] at h; subst h; simp [Tx.refKeep]
  | m :: l, s, t, n, h => by
    simp only [List.cons_append, Tx.refKeep] at h ⊢
    split at h
    · rename_i hm
      rw [if_pos hm]
      exact refKeep_snoc l _ t n h
    · cases h

theorem refKeep_no : ∀ (l r : List Int) (s : Tx.Bytes) (n : Int), Tx.fits n = false → Tx.refKeep (l ++ n :: r) s = none
  | [], r, s, n, h => by simp [Tx.refKeep, h]
  | m :: l, r, s, n, h => by
    simp only [List.cons_append, Tx.refKeep]
    split
    · exact refKeep_no l r _ n h
    · rfl

set_option maxHeartbeats 4000000 in
set_option maxRecDepth 100000 in
theorem rline_crash4 (x : Tx.StepV) (kv : Value) (w : World) (hd : x.op.data.length = 32) (hk : KeepR w kv x.keep) (hc : x.crash = true) (h1 : Tx.opEq x.op Tx.op0 = true) (h2 : (x.arm != 0) = false) (h3 : Tx.fits x.tear = true) (hkl : x.keep.length ≤ 1000001) (hsf : x.soft < 18446744073709551616) :
    Calls Tryd.prog 16 #[.agg (stepCells x kv).toArray] w (RLineP (Tx.refLine x) w) := by
  have HL := Lib.hid (lineW x kv w hd)
  have HZ0 : Hid (((w.alloc (.cells (stepCells x kv).toArray 41)).alloc (.cells Z37 35)).heap[w.heap.size + 1]? = some (.cells Z37 35 (0, 0))) := Lib.hid (by rw [M.heap_alloc_if, if_pos (by simp)])
  have HD := Lib.hid hd
  have HK := Lib.hid hk
  have HF : Hid (Tx.refLine x = match Tx.refKeep x.keep (Tx.crashW ++ [32] ++ Lib.decDigits x.soft ++ [32] ++ Lib.decDigits x.tear.toNat) with | some s => some (s ++ [10]) | none => none) := Lib.hid (by unfold Tx.refLine; simp only [hc, h1, h2, h3]; simp; generalize Tx.refKeep _ _ = q; cases q <;> rfl)
  have hfit : 0 ≤ x.tear ∧ x.tear ≤ 999999 := by simpa [Tx.fits] using h3
  have hwr : IntKind.u64.wrap x.tear = x.tear := IntWalk.u64_in _ (by omega)
  have HSP := Lib.hid (fun w => spell_any x.tear w ⟨hfit.1, by omega⟩)
  have hdl := dec_len x.tear.toNat (by omega)
  have hdl2 := dec_len x.soft hsf
  obtain ⟨soft, hsoft⟩ : ∃ n : Int, n = (x.soft : Int) := ⟨_, rfl⟩
  have HS2 := Lib.hid (fun w => spell_any soft w ⟨by omega, by omega⟩)
  have hst : soft.toNat = x.soft := by omega
  have hdl3 := dec_len soft.toNat (by omega)
  have b1 : ¬ (9223372036854775807 < 6 + (Lib.decDigits soft.toNat).length) := by omega
  have b2 : ¬ (9223372036854775807 < 6 + (Lib.decDigits soft.toNat).length + 1) := by omega
  have b3 : ¬ (9223372036854775807 < 6 + (Lib.decDigits soft.toNat).length + 1 + (Lib.decDigits x.tear.toNat).length) := by omega
  have HST := Lib.hid hst
  have HSO := Lib.hid hsoft
  clear hst hsf
  have hne := run_ne_op x.op Tx.op0 hd rfl
  rw [h1] at hne
  have HNE := Lib.hid hne
  clear hne h1
  have HC := Lib.hid hc
  clear hd hk hc
  go_enter Tryd.func16, Tryd.ntmps16
  go_upto_region 2 with (first
    | ((with_reducible show wpList _ _ _ ({ dst := _, op := Op.alloc 35, type := _, pos := _, after := _, guard := _ } :: _) _ _); refine wpList_alloc rfl 35 rfl _ (run_alloc35' _ _) ?_)
    | ((with_reducible show wpList _ _ _ ({ dst := _, op := Op.store 35 _ _, type := _, pos := _, after := _, guard := _ } :: _) _ _); refine M.wpList_store_row rfl 35 _ _ rfl (w.heap.size + 1) rfl 35 Z37 Z37 rfl HZ0.out info35 rfl one_Z37 ?_))
  clear HZ0
  generalize ((w.alloc (.cells (stepCells x kv).toArray 41)).alloc (.cells Z37 35)).setRow (w.heap.size + 1) Z37 = W at *
  have c2 := HL.out.crash
  rw [HC.out] at c2
  have c1 := HL.out.arm
  have c5 := HL.out.tear
  have c4 := HL.out.soft
  rw [← HSO.out] at c4
  clear hsoft
  have c3 := HL.out.keep
  go_wp2_with (first
    | ((with_reducible show wpList _ _ _ ({ dst := _, op := Op.load 35 _, type := _, pos := _, after := _, guard := _ } :: _) _ _); first
        | (refine wpList_load_mid rfl 35 _ rfl w.heap.size 0 rfl (opCells x.op) _ HL.out.range Tryd.underlying35 rfl (info35.trans (by rw [opCells_len HD.out])) ?_)
        | (refine wpList_load_row rfl 35 _ rfl (w.heap.size + 1) rfl 35 (opCells Tx.op0).toArray (0, 0) _ HL.out.zero Tryd.underlying35 rfl info35 ?_))
    | ((with_reducible show wpList _ _ _ ({ dst := _, op := Op.binOp .neq 35 _ _ _, type := _, pos := _, after := _, guard := _ } :: _) _ _); refine wpList_binop rfl .neq 35 35 _ _ rfl (.agg (opCells x.op).toArray) (.agg (opCells Tx.op0).toArray) _ rfl rfl (run_eqGuard_agg _ _ _ _ _ _ _ guard35) (HNE.out _) ?_)
    | (go_at_call 21; refine (fits_any _ _).mono ?_; rintro e w' ⟨rfl, rfl⟩))
  go_region_held3 (fun w' => w'.cell? ⟨w.heap.size, 40, none⟩ = some (.int .u64 soft) ∧ w'.cell? ⟨w.heap.size, 41, none⟩ = some (.int .i64 x.tear) ∧ LineW x kv w w')
    (first | exact ⟨c4, c5, HL.out.drewB⟩ | assumption | exact ckeep (by assumption) (by assumption))
    ((first
      | (go_at_call_of 22 (Value.int .u64 x.tear); refine (HSP.out _).mono ?_; rintro e w1 ⟨rfl, hb⟩)
      | (go_at_call_of 22 (Value.int .u64 soft); refine (HS2.out _).mono ?_; rintro e w1 ⟨rfl, hb⟩)))
  all_goals
    rename_i hS
    have HLW := Lib.hid hS.2.2
    clear hS hb c1 c2 c3 c4 c5
    rw [HST.out]
    obtain ⟨a9, c9, rfl, hka⟩ := HK.out
    clear hka
    go_wp2
    go_loopw [5, 6] (fun v i wr => ∃ (k : Nat) (t : Tx.Bytes), k ≤ x.keep.length ∧ i = .int .i64 k ∧ v = .string ⟨t.toArray⟩ ∧ t.length ≤ 60 + 30 * k ∧
        Tx.refKeep (x.keep.take k) (Tx.crashW ++ [32] ++ Lib.decDigits x.soft ++ [32] ++ Lib.decDigits x.tear.toNat) = some t ∧ LineW x (.slice a9 x.keep.length c9) w wr) (fun _ i _ => x.keep.length - (intOf i).toNat)
    case atStart =>
      refine ⟨0, _, Nat.zero_le _, rfl, ?_, ?_, rfl, HLW.out⟩
      · rw [str_add, str_add, str_add, str_add]; rfl
      · simp [Tx.crashW]; omega
    case round =>
      obtain ⟨k, t, hk, rfl, rfl, htl, hrk, hlw⟩ := hrel
      have HRK := Lib.hid hrk
      have HLR := Lib.hid hlw
      clear hrk hlw
      have d3 := HLR.out.keep
      by_cases hlt : k < x.keep.length
      · obtain ⟨n, hn⟩ : ∃ n, x.keep[k]? = some n := ⟨_, List.getElem?_eq_getElem hlt⟩
        obtain ⟨a', c', hac, hh⟩ := HK.out
        obtain ⟨b, o, ha, hcells⟩ := hh (by intro e; rw [e] at hlt; simp at hlt)
        injection hac with hac1 hac2 hac3
        subst hac1
        subst ha
        have hcell : wr.cell? ⟨b, o + k, none⟩ = some (.int .i64 n) := by
          rw [HLR.out.below.cell (p := ⟨b, o + k, none⟩) (World.block_lt_of_cell? _ _ (hcells k n hn))]; exact hcells k n hn
        have HN := Lib.hid hn
        have hlt2 : (k : Int) < (x.keep.length : Int) := by omega
        clear hn hcells hh hac2 hac3
        cases hf : Tx.fits n with
        | false =>
          have HFN := Lib.hid hf
          clear hf
          go_wp2_with (go_at_call 21; refine (fits_any _ _).mono ?_; rintro e w' ⟨rfl, rfl⟩; rw [HFN.out])
          go_ret2
          have hno : Tx.refLine x = none := by
            rw [HF.out]
            have : x.keep = x.keep.take k ++ n :: x.keep.drop (k + 1) := take_split HN.out
            rw [this, refKeep_no _ _ _ _ HFN.out]
          show RLineP (Tx.refLine x) _ _ _
          rw [hno]
          exact ⟨HLR.out.below, _, rfl⟩
        | true =>
          have hfn : 0 ≤ n ∧ n ≤ 999999 := by simpa [Tx.fits] using hf
          have HFN := Lib.hid hf
          have hwn : IntKind.u64.wrap n = n := IntWalk.u64_in _ (by omega)
          have hdn := dec_len n.toNat (by omega)
          have HSN := Lib.hid (fun w => spell_any n w ⟨hfn.1, by omega⟩)
          clear hf
          go_wp2_with (first
            | (go_at_call 21; refine (fits_any _ _).mono ?_; rintro e w' ⟨rfl, rfl⟩; rw [HFN.out])
            | (go_at_call 22; refine (HSN.out _).mono ?_; rintro e w1 ⟨rfl, hb1⟩))
          refine ⟨⟨k + 1, t ++ [32] ++ Lib.decDigits n.toNat, by omega, by go_num, by rw [str_add, str_add], by simp; omega, ?_, HLR.out.keepB hb1⟩, ?_⟩
          · rw [List.take_add_one, HN.out]
            show Tx.refKeep (x.keep.take k ++ [n]) _ = _
            rw [refKeep_snoc _ _ _ _ HRK.out, if_pos HFN.out]
          · simp [intOf]; omega
      · have hke : k = x.keep.length := by omega
        have HKE := Lib.hid hke
        have hlt2 : ¬ (k : Int) < (x.keep.length : Int) := by omega
        clear hke
        go_wp2
        go_ret2
        have h0 : Tx.refLine x = some (t ++ [10]) := by
          rw [HF.out]
          have := HRK.out
          rw [List.take_of_length_le (by have := HKE.out; omega)] at this
          rw [this]
        show RLineP (Tx.refLine x) _ _ _
        rw [h0]
        refine ⟨HLR.out.below, ?_⟩
        show Ending.returned _ = Ending.returned _
        congr 2

end Go.Proofs.YtjjlmhlfobmpgaaDoor
