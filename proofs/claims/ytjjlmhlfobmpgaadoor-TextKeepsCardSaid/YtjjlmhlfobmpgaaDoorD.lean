/-
Walks: text.hex, text.data.
-/
import Derived.Test.YtjjlmhlfobmpgaaDoorB
import Derived.Deep.MidRow
namespace Go.Proofs.YtjjlmhlfobmpgaaDoor
open Go.RowKit

def bv (b : UInt8) : Value := .int .u8 (b.toNat : Int)

theorem info33 : (Tryd.prog.info? 33).map (·.size) = some 32 := by kernel_rfl

theorem freshF (w : World) : Lib.IsBuilderF 63 5 w.heap.size w.heap.size [] (w.alloc (.cells #[.pointer none, .slice none 0 0] 63)) := Lib.IsBuilderF.of (Lib.fresh_isBuilder 63 5 w)

def digs : ByteArray := ⟨#[48, 49, 50, 51, 52, 53, 54, 55, 56, 57, 97, 98, 99, 100, 101, 102]⟩

theorem digs_fin : ∀ n : Fin 16, digs[n.val]'(by have := n.isLt; show n.val < 16; omega) = Tx.hexDig n.val := by decide
theorem digs_at (n : Nat) (h : n < 16) (h' : n < digs.size) : digs[n] = Tx.hexDig n := digs_fin ⟨n, h⟩

theorem builder_lt {T e : TypeId} {B b : Nat} {bs : List Value} {w : World} (h : Lib.IsBuilderF T e B b bs w) : b < w.heap.size := h.elim (fun x => x.lt) (fun x => x.lt)

theorem hexF_take (d : Tx.Bytes) (k : Nat) (hk : k ≤ 32) : (Lib.byteCells (Tx.hexF (d.take k))).length ≤ 64 := by
  simp only [Lib.byteCells, List.length_map, Tx.hexF_length, List.length_take]; omega

theorem hexF_snoc {d : Tx.Bytes} {k : Nat} {b : UInt8} (h : d[k]? = some b) : Tx.hexF (d.take (k + 1)) = Tx.hexF (d.take k) ++ [Tx.hexDig (b.toNat / 16), Tx.hexDig (b.toNat % 16)] := by
  rw [List.take_add_one, h]; simp [Tx.hexF]

theorem hex_cells {d : Tx.Bytes} {k : Nat} {b : UInt8} (h : d[k]? = some b) (h1 : b.toNat / 16 < digs.size) (h2 : b.toNat % 16 < digs.size) :
    Lib.byteCells (Tx.hexF (d.take k)) ++ [.int .u8 (digs[b.toNat / 16].toNat : Int)] ++ [.int .u8 (digs[b.toNat % 16].toNat : Int)] = Lib.byteCells (Tx.hexF (d.take (k + 1))) := by
  have := b.toNat_lt
  rw [digs_at _ (by omega), digs_at _ (by omega), hexF_snoc h]
  simp [Lib.byteCells]

set_option maxHeartbeats 1000000 in
set_option maxRecDepth 100000 in
theorem hexT_any (d : Tx.Bytes) (w : World) (hd : d.length = 32) :
    Calls Tryd.prog 51 #[.agg (d.map bv).toArray] w fun e w' => e = .returned (.string ⟨(Tx.hexF d).toArray⟩) ∧ Below w.heap.size w w' := by
  have HD := Lib.hid hd
  clear hd
  have hF := freshF (w.alloc (.cells (d.map bv).toArray 33))
  have HF := Lib.hid hF
  clear hF
  go_enter Tryd.func51, Tryd.ntmps51
  go_wp2_with (refine wpList_load_row rfl 33 _ rfl w.heap.size rfl 33 (d.map bv).toArray (0, 0) _ (by rw [M.heap_alloc_if, if_neg (by simp), M.heap_alloc_if, if_pos rfl]) Tryd.underlying33 rfl (info33.trans (by simp [HD.out])) ?_)
  go_loopw [7] (fun i wr => ∃ k : Nat, k ≤ 32 ∧ i = .int .i64 k ∧ Lib.IsBuilderF 63 5 (w.heap.size + 1) (w.heap.size + 1) (Lib.byteCells (Tx.hexF (d.take k))) wr ∧ Below w.heap.size w wr) (fun i _ => 32 - (intOf i).toNat)
  case atStart =>
    refine ⟨0, Nat.zero_le _, rfl, ?_, ?_⟩
    · show Lib.IsBuilderF 63 5 (w.heap.size + 1) (w.heap.size + 1) [] _
      simpa using HF.out
    · exact ((Below.refl _ _).alloc (Nat.le_refl _) _).alloc (by simp) _
  case round =>
    obtain ⟨k, hk, rfl, hbd, hb⟩ := hrel
    by_cases hlt : k < 32
    · obtain ⟨b, hbk⟩ : ∃ b, d[k]? = some b := ⟨_, List.getElem?_eq_getElem (by rw [HD.out]; exact hlt)⟩
      have hx0 : (0 : Int) ≤ (b.toNat : Int) := by omega
      have hx1 : (b.toNat : Int) < 256 := by have := b.toNat_lt; omega
      have hix := fun w' => M.run_index_arr (P := Tryd.prog) 33 5 32 Tryd.underlying33 Tryd.isAgg5 Tryd.sizeOf5 (d.map bv).toArray .i64 (k : Int) (.int .u8 (b.toNat : Int)) (by omega) (by omega) (by simp [bv, hbk]) w'
      have HB := Lib.hid hbk
      clear hbk
      have hL := hexF_take d k hk
      have hlt2 := builder_lt hbd
      go_wp2_with fail
      go_at_call 70
      refine (Tryd.Builder_WriteByte_k (w.heap.size + 1) (w.heap.size + 1) _ _ _ hbd (by omega) (by omega)).mono ?_
      rintro e w1 ⟨rfl, hbd1, hb1, _⟩
      have hlt3 := hbd1.lt
      go_wp2_with fail
      go_at_call 70
      refine (Tryd.Builder_WriteByte_k (w.heap.size + 1) (w.heap.size + 1) _ _ _ (Or.inr hbd1) (by simp only [List.length_append, List.length_singleton]; omega) (by omega)).mono ?_
      rintro e w2 ⟨rfl, hbd2, hb2, _⟩
      have HC := Lib.hid (hex_cells HB.out (by show _ < 16; omega) (by show _ < 16; omega))
      have HD2 := Lib.hid hbd2
      clear hbd2
      go_wp2
      go_roundw
      case rel => exact ⟨k + 1, by omega, by go_num, Or.inr (by rw [← HC.out]; exact HD2.out), (hb.trans (hb1.mono (by omega))).trans (hb2.mono (by omega))⟩
      case measure => simp [intOf]; omega
    · have hk2 : k = 32 := by omega
      have HK := Lib.hid hk2
      clear hk2
      have hlt2 := builder_lt hbd
      go_wp2_with fail
      go_at_call 29
      refine (Tryd.Builder_String_any_k (w.heap.size + 1) (w.heap.size + 1) _ _ hbd (by omega)).mono ?_
      rintro e w1 ⟨rfl, _, hb1, _⟩
      go_wp2
      go_ret
      exact ⟨ret_str (by rw [List.take_of_length_le]; have := HD.out; have := HK.out; omega), hb.trans (hb1.mono (by omega))⟩

end Go.Proofs.YtjjlmhlfobmpgaaDoor
