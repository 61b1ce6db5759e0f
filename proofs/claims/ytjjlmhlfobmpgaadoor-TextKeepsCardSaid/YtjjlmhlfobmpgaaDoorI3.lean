/-
Walks: text.line, a crash.
-/
import Derived.Test.YtjjlmhlfobmpgaaDoorI2
import Derived.Deep.RegionHeld3
import Derived.Deep.AppendLies
namespace Go.Proofs.YtjjlmhlfobmpgaaDoor
open Go.RowKit

theorem below_new (w : World) (o : Obj) : Below w.heap.size w (w.alloc o) := (Below.refl _ w).alloc (Nat.le_refl _) o

theorem crash_keep {w w1 w2 : World} {b : Nat} {kv : Value} {soft tear : Int} (h : w1.cell? ⟨b, 39, none⟩ = some kv ∧ w1.cell? ⟨b, 40, none⟩ = some (.int .u64 soft) ∧ w1.cell? ⟨b, 41, none⟩ = some (.int .i64 tear) ∧ Ld w1 ∧ Below w.heap.size w w1)
    (hb : Below w1.heap.size w1 w2) : w2.cell? ⟨b, 39, none⟩ = some kv ∧ w2.cell? ⟨b, 40, none⟩ = some (.int .u64 soft) ∧ w2.cell? ⟨b, 41, none⟩ = some (.int .i64 tear) ∧ Ld w2 ∧ Below w.heap.size w w2 := by
  obtain ⟨h1, h2, h3, L, hB⟩ := h
  refine ⟨?_, ?_, ?_, L.below hb, hB.trans (hb.mono hB.size)⟩
  · rw [hb.cell (World.block_lt_of_cell? _ _ h1)]; exact h1
  · rw [hb.cell (World.block_lt_of_cell? _ _ h2)]; exact h2
  · rw [hb.cell (World.block_lt_of_cell? _ _ h3)]; exact h3

set_option maxHeartbeats 4000000 in
set_option maxRecDepth 100000 in
/-- A crash's line. -/
theorem line_crash (x : Tx.StepV) (kv : Value) (w : World) (hx : StepOk2 x) (hc : x.crash = true) (L : Ld w) (hk : KeepR w kv x.keep) :
    Calls Tryd.prog 26 #[.agg (stepCells x kv).toArray] w (LineP (Tx.lineL x) w) := by
  have HX := Lib.hid hx
  have hl : Tx.lineL x = Tx.crashW :: Lib.decDigits x.soft :: Lib.itoa x.tear :: x.keep.map Lib.itoa := by unfold Tx.lineL; rw [hc]; simp
  have HLL := Lib.hid hl
  obtain ⟨r0, c1, c2, c3, c4, c5⟩ := box_step (x := x) (kv := kv) (w := w) (wx := w.alloc (.cells (stepCells x kv).toArray 41)) hx.op.data (heap_alloc_new w _)
  rw [hc] at c2
  have L1 := L.alloc (.cells (stepCells x kv).toArray 41)
  have hbase := (Below.refl w.heap.size w).alloc (Nat.le_refl _) (.cells (stepCells x kv).toArray 41)
  have HB := Lib.hid hbase
  have HJ := Lib.hid (line_len hx)
  have HK := Lib.hid hk
  obtain ⟨a, c, rfl, hka⟩ := hk
  obtain ⟨soft, hsf⟩ : ∃ n : Int, n = (x.soft : Int) := ⟨_, rfl⟩
  rw [← hsf] at c4
  have HSF := Lib.hid hsf
  clear hsf
  clear hx hl r0 hc hbase hka
  go_enter Tryd.func26, Tryd.ntmps26
  have hs : ((x.soft : Nat) : Int) = soft := HSF.out.symm
  have HF : ∀ w', Ld w' → Calls Tryd.prog 36 #[.int .u64 soft, .int .i64 10] w' fun e w1 => e = .returned (.string ⟨(Lib.decDigits x.soft).toArray⟩) ∧ Below w'.heap.size w' w1 := fun w' L => by
    rw [HSF.out]; exact formatUint_any x.soft w' HX.out.soft L
  have HG : ∀ w', Ld w' → Calls Tryd.prog 37 #[.int .i64 x.tear] w' fun e w1 => e = .returned (.string ⟨(Lib.itoa x.tear).toArray⟩) ∧ Below w'.heap.size w' w1 := fun w' L =>
    itoa_any x.tear w' HX.out.tear L
  have HF2 := Lib.hid HF
  have HG2 := Lib.hid HG
  clear hs HF HG
  go_wp2
  go_region_held3 (fun w' => w'.cell? ⟨w.heap.size, 39, none⟩ = some (.slice a x.keep.length c) ∧ w'.cell? ⟨w.heap.size, 40, none⟩ = some (.int .u64 soft) ∧ w'.cell? ⟨w.heap.size, 41, none⟩ = some (.int .i64 x.tear) ∧ Ld w' ∧ Below w.heap.size w w')
    (first | exact ⟨c3, c4, c5, L1.drew, HB.out.drew⟩ | exact crash_keep (by assumption) (by assumption) | exact crash_keep (by assumption) (below_new _ _) | go_keep)
    ((first | (go_at_call 36; refine (HF2.out _ ?_).mono ?_; (simp [*]); rintro e w1 ⟨rfl, hb⟩) | (go_at_call 37; refine (HG2.out _ ?_).mono ?_; (simp [*]); rintro e w1 ⟨rfl, hb⟩)))
  case _ =>
    rename_i hS
    obtain ⟨s1, s2, s3, LS, hbS⟩ := hS
    rename_i w1 hb1
    have hz : w.heap.size ≤ w1.heap.size := by have h3 := hb.size; have h4 := hb1.size; simp at h3 h4; omega
    have how := World.ownsRow_lit (base := w.heap.size) (e := 9) (size := 1) w1 #[.string ⟨#[99, 114, 97, 115, 104]⟩, .string ⟨(Lib.decDigits x.soft).toArray⟩, .string ⟨(Lib.itoa x.tear).toArray⟩] 3 hz (by decide) rfl
    have HOW := Lib.hid how
    have HBS := Lib.hid hbS
    clear how hbS hb hb1 hz s2 s3 c1 c2 c3 c4 c5 HF2 HG2 L1 HB
    have hfew := HX.out.few
    obtain ⟨i0, hi0, hz0, hz1, hz2⟩ := info_parts info9
    go_wp2
    go_loopw [3, 5, 25] (fun v n i wr => ∃ k : Nat, k ≤ x.keep.length ∧ i = .int .i64 k ∧ wr.ownsRow w.heap.size 9 1 v (3 + k) ((Tx.crashW :: Lib.decDigits x.soft :: Lib.itoa x.tear :: (x.keep.take k).map Lib.itoa).map str) ∧ Below w.heap.size w wr) (fun _ _ i _ => x.keep.length - (intOf i).toNat)
    case atStart =>
      exact ⟨0, Nat.zero_le _, rfl, HOW.out, HBS.out⟩
    case round =>
      obtain ⟨k, hk, rfl, hown, hbr⟩ := hrel
      by_cases hlt : k < x.keep.length
      · obtain ⟨n, hn⟩ : ∃ n, x.keep[k]? = some n := ⟨_, List.getElem?_eq_getElem hlt⟩
        obtain ⟨a', c', hac, hh⟩ := HK.out
        obtain ⟨b, o, ha, hcells⟩ := hh (by intro e; rw [e] at hlt; simp at hlt)
        injection hac with hac1 hac2 hac3
        subst hac1
        subst ha
        have hcell : wr.cell? ⟨b, o + k, none⟩ = some (.int .i64 n) := by
          rw [hbr.cell (p := ⟨b, o + k, none⟩) (World.block_lt_of_cell? _ _ (hcells k n hn))]; exact hcells k n hn
        have hI := HX.out.keep n (List.mem_of_getElem? hn)
        have LX := L.below hbr
        have hsz := hbr.size
        have HN := Lib.hid hn
        have HI := Lib.hid hI
        clear hn hcells hI hac2 hac3 hh
        go_wp2_with fail
        go_at_call 37
        refine (itoa_any n _ HI.out LX).mono ?_
        rintro e wA ⟨rfl, hbA⟩
        have hownA := M.own_below hown hbA
        have hszA := hbA.size
        clear hown
        go_wp2_with (at_builtin; refine wpList_append_own _ rfl _ _ 69 rfl w.heap.size 9 i0 _ 1 16 Tryd.underlying69 hi0 hz0 hz1 hz2 rfl (by decide) u3 (3 + k) _ rfl (hownA.alloc _) ⟨wA.heap.size, 0, none⟩ 1 1 [.string ⟨(Lib.itoa n).toArray⟩] rfl rfl (cell_one_new _ _ _) (by simp [Value.oneCell']) (by unfold maxLen; omega) (by omega) (by simp; omega) ?_; intro v1 w1 hown1 hg1 _)
        have HW := Lib.hid hown1
        clear hown1
        go_wp2
        go_roundw
        case rel =>
          refine ⟨k + 1, by omega, by go_num, M.own_eq HW.out (by omega) ?_, (hbr.trans (((hbA.mono hsz).alloc (by omega) _).grown hg1 (by simp; omega) (fun q hq => (hownA.lt q hq).1)))⟩
          rw [List.take_add_one, HN.out]
          simp [str]
        case measure => simp [intOf]; omega
      · have hke : k = x.keep.length := by omega
        have HJ2 := Lib.hid (lineL_len HX.out)
        subst hke
        rw [List.take_length] at hown
        have HO := Lib.hid hown
        have hzr := hbr.size
        clear hown
        have HJo := fun w0 h1 => join_own (Tx.crashW :: Lib.decDigits x.soft :: Lib.itoa x.tear :: x.keep.map Lib.itoa) u3 w.heap.size w0 h1 (by simp; omega) (by rw [← HLL.out]; exact Nat.le_trans HJ.out (by omega))
        have HJP := Lib.hid HJo
        have hjl : (Lib.join (Tx.crashW :: Lib.decDigits x.soft :: Lib.itoa x.tear :: x.keep.map Lib.itoa) [32]).length ≤ 30000 := by rw [← HLL.out]; exact HJ.out
        clear HJo
        go_wp2_with (go_at_call 39; refine (HJP.out _ (M.own_eq HO.out (by simp; omega) rfl)).mono ?_; rintro e w2 ⟨rfl, hb2⟩)
        go_ret
        exact ⟨by rw [HLL.out, str_add]; rfl, hbr.trans (hb2.mono hzr)⟩

/-- The line of whatever step. -/
theorem line_any (x : Tx.StepV) (kv : Value) (w : World) (hx : StepOk2 x) (L : Ld w) (hk : KeepR w kv x.keep) :
    Calls Tryd.prog 26 #[.agg (stepCells x kv).toArray] w (LineP (Tx.lineL x) w) := by
  cases hc : x.crash with
  | true => exact line_crash x kv w hx hc L hk
  | false =>
    by_cases ha : 0 < x.arm
    · exact line_arm x kv w hx hc ha L
    · exact line_op x kv w hx hc ha L

end Go.Proofs.YtjjlmhlfobmpgaaDoor
