/-
Walks: text.data.
-/
import Derived.Test.YtjjlmhlfobmpgaaDoorF
namespace Go.Proofs.YtjjlmhlfobmpgaaDoor
open Go.RowKit

set_option maxHeartbeats 2000000 in
set_option maxRecDepth 100000 in
theorem data_any (s : ByteArray) (w : World) :
    Calls Tryd.prog 47 #[.string s] w (DataP (Tx.dataF s.data.toList) w) := by
  by_cases hsz : s.size = 64
  · have HS := Lib.hid hsz
    clear hsz
    have hne : ((s.size : Int) != 64) = false := by rw [HS.out]; rfl
    go_enter Tryd.func47, Tryd.ntmps47
    go_wp2
    go_loopw [13] (fun i wr => ∃ k : Nat, k ≤ 64 ∧ i = .int .i64 k ∧ (∀ j, j < k → ∃ c v, s.data.toList[j]? = some c ∧ Tx.hexVal c = some v) ∧ wr.heap[w.heap.size]? = some (.cells Z32 33 (0, 0)) ∧
        wr.heap[w.heap.size + 1]? = some (.cells ((dpre s.data.toList k).map bv).toArray 33 (0, 0)) ∧ Below w.heap.size w wr) (fun i _ => 64 - (intOf i).toNat)
    case atStart =>
      refine ⟨0, Nat.zero_le _, rfl, fun j hj => absurd hj (Nat.not_lt_zero _), ?_, ?_, ?_⟩
      · rw [M.heap_alloc_if, if_neg (by simp), M.heap_alloc_if, if_pos rfl]; rfl
      · rw [dpre_zero, M.heap_alloc_if, if_pos (by simp)]; rfl
      · exact ((Below.refl _ _).alloc (Nat.le_refl _) _).alloc (by simp) _
    case round =>
      obtain ⟨k, hk, rfl, hall, hz, hd, hb⟩ := hrel
      have HA := Lib.hid hall
      clear hall
      by_cases hlt : k < 64
      · have hlt2 : (k : Int) < s.size := by rw [HS.out]; omega
        obtain ⟨c, hc⟩ : ∃ c, s.data.toList[k]? = some c := ⟨_, List.getElem?_eq_getElem (by have := HS.out; simp; omega)⟩
        have hix := fun w' => M.run_index_str (P := Tryd.prog) 9 Tryd.underlying9 s .i64 (k : Int) c (by omega) (by simpa using hc) w'
        have HC := Lib.hid hc
        clear hc
        cases hv' : Tx.hexVal c with
        | none =>
          have HV := Lib.hid hv'
          clear hv'
          go_wp2_with fail
          go_at_call 64
          refine (indexByte_dig c _).mono ?_
          rintro e w1 ⟨rfl, rfl⟩
          rw [HV.out]
          go_wp2_with (first
            | (refine wpList_load_row rfl 33 _ rfl (w.heap.size + 1) rfl 33 ((dpre s.data.toList k).map bv).toArray (0, 0) _ hd Tryd.underlying33 rfl (info33.trans (by simp [dpre_len])) ?_)
            | (refine M.wpList_store_row rfl 33 _ _ rfl w.heap.size rfl 33 Z32 ((dpre s.data.toList k).map bv).toArray rfl hz (info33.trans (by simp [dpre_len])) (by simp [dpre_len, Z32]) (one_bv _) ?_))
          refine bodyPost_ret (M.results_cell_tmp rfl _ _ w.heap.size 33 ((dpre s.data.toList k).map bv).toArray (0, 0) _ rfl (M.heap_setRow_same _ _ _ _ _ hz) Tryd.underlying33 rfl (info33.trans (by simp [dpre_len]))) rfl ?_
          refine ⟨M.below_setRow hb (Nat.le_refl _) _, ?_⟩
          rw [data_none HC.out HV.out]
          exact ⟨_, rfl, by simp [dpre_len], one_bv _⟩
        | some v =>
          have HV := Lib.hid hv'
          clear hv'
          go_wp2_with fail
          go_at_call 64
          refine (indexByte_dig c _).mono ?_
          rintro e w1 ⟨rfl, rfl⟩
          rw [HV.out]
          have hv0 : v < 16 := (Tx.hexVal_some HV.out).1
          have hb3 := dval_mid s.data.toList k
          have HB := Lib.hid (dpre_succ s.data.toList k hlt)
          have HB2 := Lib.hid (dpre_at s.data.toList k (k / 2) (by omega))
          generalize dval s.data.toList k (k / 2) = b at hb3 HB HB2
          have hcell : wr.cell? ⟨w.heap.size + 1, k / 2, none⟩ = some (.int .u8 (b.toNat : Int)) := by
            rw [cell_of_row wr _ _ _ _ _ hd]; simp [HB2.out, bv]
          have hfr : wr.frozen? ⟨w.heap.size + 1, k / 2, none⟩ = false := frozen_of_row wr _ _ _ _ hd
          go_wp2
          go_roundw
          case rel =>
            refine ⟨k + 1, by omega, by go_num, ?_, ?_, ?_, hb.setCell (by simp) _⟩
            · intro j hj
              by_cases e : j = k
              · subst e; exact ⟨c, v, HC.out, HV.out⟩
              · exact HA.out j (by omega)
            · rw [heap_setCell_other _ _ _ _ (by simp)]; exact hz
            · rw [heap_setCell_same _ _ _ _ _ _ hd, bits_nibs _ _ hb3 hv0, set_bv, HB.out, hv_of HC.out HV.out]
          case measure => simp [intOf]; omega
      · have hk2 : k = 64 := by omega
        have HK := Lib.hid hk2
        clear hk2
        have hge : ¬ (k : Int) < s.size := by rw [HS.out]; omega
        go_wp2_with (first
            | (refine wpList_load_row rfl 33 _ rfl (w.heap.size + 1) rfl 33 ((dpre s.data.toList k).map bv).toArray (0, 0) _ hd Tryd.underlying33 rfl (info33.trans (by simp [dpre_len])) ?_)
            | (refine M.wpList_store_row rfl 33 _ _ rfl w.heap.size rfl 33 Z32 ((dpre s.data.toList k).map bv).toArray rfl hz (info33.trans (by simp [dpre_len])) (by simp [dpre_len, Z32]) (one_bv _) ?_))
        refine bodyPost_ret (M.results_cell_tmp rfl _ _ w.heap.size 33 ((dpre s.data.toList k).map bv).toArray (0, 0) _ rfl (M.heap_setRow_same _ _ _ _ _ hz) Tryd.underlying33 rfl (info33.trans (by simp [dpre_len]))) rfl ?_
        refine ⟨M.below_setRow hb (Nat.le_refl _) _, ?_⟩
        have h64 := HK.out
        subst h64
        rw [data_of _ (by have := HS.out; simpa using this) HA.out]
        rfl
  · have hne : ((s.size : Int) != 64) = true := by simp; omega
    have HS := Lib.hid hsz
    clear hsz
    have h0 : ((w.alloc (.cells Z32 33)).alloc (.cells Z32 33)).heap[w.heap.size]? = some (.cells Z32 33 (0, 0)) := by
      rw [M.heap_alloc_if, if_neg (by simp), M.heap_alloc_if, if_pos rfl]
    have h1 : ((w.alloc (.cells Z32 33)).alloc (.cells Z32 33)).heap[w.heap.size + 1]? = some (.cells Z32 33 (0, 0)) := by
      rw [M.heap_alloc_if, if_pos (by simp)]
    have H0 := Lib.hid h0
    have H1 := Lib.hid h1
    clear h0 h1
    go_enter Tryd.func47, Tryd.ntmps47
    go_wp2_with (first
            | (refine wpList_load_row rfl 33 _ rfl (w.heap.size + 1) rfl 33 Z32 (0, 0) _ H1.out Tryd.underlying33 rfl (info33.trans (by simp [Z32])) ?_)
            | (refine M.wpList_store_row rfl 33 _ _ rfl w.heap.size rfl 33 Z32 Z32 rfl H0.out (info33.trans (by simp [Z32])) rfl one_Z32 ?_))
    refine bodyPost_ret (M.results_cell_tmp rfl _ _ w.heap.size 33 Z32 (0, 0) _ rfl (M.heap_setRow_same _ _ _ _ _ H0.out) Tryd.underlying33 rfl (info33.trans (by simp [Z32]))) rfl ?_
    refine ⟨M.below_setRow (((Below.refl _ _).alloc (Nat.le_refl _) _).alloc (by simp) _) (Nat.le_refl _) _, ?_⟩
    have : Tx.dataF s.data.toList = none := by
      unfold Tx.dataF
      rw [if_neg (by have := HS.out; simpa using this)]
    rw [this]
    exact ⟨_, rfl, by simp [Z32], one_Z32⟩

end Go.Proofs.YtjjlmhlfobmpgaaDoor
