/-
Walks: windrowref25.hex.
-/
import Derived.Test.YtjjlmhlfobmpgaaDoorD
import Derived.Deep.RegionHeld3
import Derived.Deep.AppendLies
namespace Go.Proofs.YtjjlmhlfobmpgaaDoor
open Go.RowKit

theorem info5 : (Tryd.prog.info? 5).map (fun i => (i.zero, i.size, i.bytes)) = some (some (.int .u8 0), 1, 1) := by kernel_rfl

theorem digl_fin : ∀ n : Fin 16, (⟨#[48, 49, 50, 51, 52, 53, 54, 55, 56, 57, 97, 98, 99, 100, 101, 102]⟩ : ByteArray).data.toList[n.val]? = some (Tx.hexDig n.val) := by decide
theorem digl_at (n : Nat) (h : n < 16) : (⟨#[48, 49, 50, 51, 52, 53, 54, 55, 56, 57, 97, 98, 99, 100, 101, 102]⟩ : ByteArray).data.toList[n]? = some (Tx.hexDig n) := digl_fin ⟨n, h⟩

theorem hex_cells2 {d : Tx.Bytes} {k : Nat} {b : UInt8} (h : d[k]? = some b) :
    Lib.byteCells (Tx.hexF (d.take k)) ++ [.int .u8 ((Tx.hexDig (b.toNat / 16)).toNat : Int), .int .u8 ((Tx.hexDig (b.toNat % 16)).toNat : Int)] = Lib.byteCells (Tx.hexF (d.take (k + 1))) := by
  rw [hexF_snoc h]
  simp [Lib.byteCells]

set_option maxHeartbeats 1000000 in
set_option maxRecDepth 100000 in
theorem hexR_any (d : Tx.Bytes) (w : World) (hd : d.length = 32) :
    Calls Tryd.prog 24 #[.agg (d.map bv).toArray] w fun e w' => e = .returned (.string ⟨(Tx.hexF d).toArray⟩) ∧ Below w.heap.size w w' := by
  have HD := Lib.hid hd
  clear hd
  obtain ⟨i0, hi0, hz0, hz1, hz2⟩ := info_parts info5
  go_enter Tryd.func24, Tryd.ntmps24
  go_wp2
  go_loopw [3, 4] (fun v i wr => ∃ k : Nat, k ≤ 32 ∧ i = .int .i64 k ∧ wr.ownsRow (w.heap.size + 1) 5 1 v (2 * k) (Lib.byteCells (Tx.hexF (d.take k))) ∧ Below (w.heap.size + 1) (w.alloc (.cells (d.map bv).toArray 33)) wr) (fun _ i _ => 32 - (intOf i).toNat)
  case atStart =>
    exact ⟨0, Nat.zero_le _, rfl, World.ownsRow_nil _ _ _ _, Below.refl _ _⟩
  case round =>
    obtain ⟨k, hk, rfl, hown, hb⟩ := hrel
    by_cases hlt : k < 32
    · obtain ⟨b, hbk⟩ : ∃ b, d[k]? = some b := ⟨_, List.getElem?_eq_getElem (by rw [HD.out]; exact hlt)⟩
      have hx0 : (0 : Int) ≤ (b.toNat : Int) := by omega
      have hx1 : (b.toNat : Int) < 256 := by have := b.toNat_lt; omega
      have hc : wr.cell? ⟨w.heap.size, k, none⟩ = some (.int .u8 (b.toNat : Int)) := by
        rw [hb.cell (p := ⟨w.heap.size, k, none⟩) (by simp), World.cell?_alloc_new]
        simp [bv, hbk]
      have HB := Lib.hid hbk
      clear hbk
      have hL := hexF_take d k hk
      have hlt2 : w.heap.size + 1 ≤ wr.heap.size := by simpa using hb.size
      have hq0 : (0 : Int) ≤ (b.toNat : Int) / 16 := by omega
      have hq2 : (0 : Int) ≤ (b.toNat : Int) % 16 := by omega
      have hw2 : (b.toNat : Int).tmod 16 = (b.toNat : Int) % 16 := Int.tmod_eq_emod_of_nonneg hx0
      have hw1 : IntKind.u8.wrap ((b.toNat : Int) / 16) = (b.toNat : Int) / 16 := IntWalk.u8_in _ (by omega)
      have hi1 := fun w' => M.run_index_str (P := Tryd.prog) 9 Tryd.underlying9 ⟨#[48, 49, 50, 51, 52, 53, 54, 55, 56, 57, 97, 98, 99, 100, 101, 102]⟩ .u8 ((b.toNat : Int) / 16) (Tx.hexDig (b.toNat / 16)) hq0 (by rw [show ((b.toNat : Int) / 16).toNat = b.toNat / 16 by omega]; exact digl_at _ (by omega)) w'
      have hi2 := fun w' => M.run_index_str (P := Tryd.prog) 9 Tryd.underlying9 ⟨#[48, 49, 50, 51, 52, 53, 54, 55, 56, 57, 97, 98, 99, 100, 101, 102]⟩ .u8 ((b.toNat : Int) % 16) (Tx.hexDig (b.toNat % 16)) hq2 (by rw [show ((b.toNat : Int) % 16).toNat = b.toNat % 16 by omega]; exact digl_at _ (by omega)) w'
      have hne : u3.ownBlock ≠ some w.heap.size := fun e => by have := (hown.lt _ e).1; omega
      have HC := Lib.hid (hex_cells2 HB.out)
      generalize ((Tx.hexDig (b.toNat / 16)).toNat : Int) = c1 at hi1 HC
      generalize ((Tx.hexDig (b.toNat % 16)).toNat : Int) = c2 at hi2 HC
      go_wp2
      go_region_held3 (fun w' => w'.cell? ⟨w.heap.size, k, none⟩ = some (.int .u8 (b.toNat : Int)))
        (first
          | go_keep
          | (rw [hgrow.cell_far _ (by simp; omega) (Ne.symm hne)]; assumption))
        ((refine step_append_lies _ (by rfl) _ _ _ (by rfl) (w.heap.size + 1) 5 i0 _ 1 1 Tryd.underlying61 hi0 hz0 hz1 hz2 rfl (by omega) u3 (2 * k) _ (by rfl) ((hown.alloc _).drew)
            ⟨wr.heap.size, 0, none⟩ 2 2 [.int .u8 c1, .int .u8 c2] (by rfl) (by rfl) (World.news_of_block (cs := #[.int .u8 c1, .int .u8 c2]) (t := 5) (fr := (0, 0)) (heap_alloc_new wr _)) (by simp [Value.oneCell'])
            (by omega) (by unfold maxLen; omega) (by omega) (by simp; omega) (wr.heap.size + 1) (by simp) ?_; intro gg cap w1 hown1 hgrow hat hlt3))
      all_goals
        have HW := Lib.hid hown1
        clear hown1
        go_wp2
        go_roundw
        case rel =>
          refine ⟨k + 1, by omega, by go_num, ?_, ?_⟩
          · rw [← HC.out, show 2 * (k + 1) = 2 * k + 2 by omega]; exact HW.out
          · exact (hb.trans ((((Below.refl _ _).alloc (by omega) _).drew).grown hgrow (by simp; omega) (fun q hq => (hown.lt q hq).1)))
        case measure => simp [intOf]; omega
    · have hk2 : k = 32 := by omega
      subst hk2
      obtain ⟨g, cap, rfl, hg1, hg2⟩ := hown.form (by omega)
      have hcv : (convert 61 9 (.slice (some ⟨g, 0, none⟩) 64 cap)).run Tryd.prog wr = .ok (.string ⟨(Tx.hexF d).toArray⟩) wr :=
        M.run_bytes_str 61 9 5 Tryd.underlying61 Tryd.underlying5 Tryd.underlying9 _ (Tx.hexF d) _ _ (by rw [Tx.hexF_length]; have := HD.out; omega) _ (fun j x hj => by
          refine hown.cells rfl j _ ?_
          have hl := HD.out
          rw [List.take_of_length_le (by omega)]
          simp [Lib.byteCells, hj])
      go_wp2
      go_ret
      exact ⟨rfl, ((Below.refl _ _).alloc (Nat.le_refl _) _).trans (hb.mono (by simp))⟩

end Go.Proofs.YtjjlmhlfobmpgaaDoor
