/-
Walks: the reference's small functions.
-/
import Derived.Test.YtjjlmhlfobmpgaaDoorRows
import Derived.Test.YtjjlmhlfobmpgaaDoorTz
import Derived.WalkKit
import Derived.WalkSpells
import Derived.WalkLawsBesides
import Derived.Deep.RegionWith
import Derived.Deep.RegionHeld3
import Derived.Deep.QuietTactic
import Derived.BigQuiet
import Derived.Lib.Hide
import Derived.Test.YtjjlmhlfobmpgaaDoorM
namespace Go.Proofs.YtjjlmhlfobmpgaaDoor
open Go.RowKit

theorem ret_bool {a b : Bool} (h : a = b) : Ending.returned (.bool a) = .returned (.bool b) := by rw [h]
theorem ret_str {a b : List UInt8} (h : a = b) : Ending.returned (.string ⟨a.toArray⟩) = .returned (.string ⟨b.toArray⟩) := by rw [h]

set_option maxHeartbeats 400000 in
theorem fits_any (n : Int) (w : World) :
    Calls Tryd.prog 21 #[.int .i64 n] w fun e w' => e = .returned (.bool (Tx.fits n)) ∧ w = w' := by
  go_enter Tryd.func21, Tryd.ntmps21
  go_wp2
  · have h : 0 ≤ n := by assumption
    go_ret
    exact ⟨ret_bool (by simp [Tx.fits, h]), rfl⟩
  · have h : n < 0 := by assumption
    go_ret
    exact ⟨ret_bool (by simp [Tx.fits]; omega), rfl⟩

def NameV (p : Tx.Bytes × Tx.Bytes) : Value := .tuple #[.string ⟨p.1.toArray⟩, .string ⟨p.2.toArray⟩]

set_option maxHeartbeats 1000000 in
theorem name_any (k : Int) (s : Bool) (w : World) :
    Calls Tryd.prog 23 #[.int .i64 k, .bool s] w fun e w' => e = .returned (NameV (Tx.nameF k s)) ∧ w = w' := by
  go_enter Tryd.func23, Tryd.ntmps23
  go_wp2
  all_goals
    go_ret2
    refine ⟨?_, rfl⟩
    simp_all [NameV, Tx.nameF]

theorem dec_step (n : Int) (_h0 : 0 ≤ n) (h : 10 ≤ n) :
    (⟨(Lib.decDigits (n / 10).toNat).toArray⟩ ++ ⟨#[UInt8.ofNat (48 + n % 10).toNat]⟩ : ByteArray) = ⟨(Lib.decDigits n.toNat).toArray⟩ := by
  conv => rhs; rw [Lib.decDigits, dif_neg (by omega)]
  have e1 : (n / 10).toNat = n.toNat / 10 := by omega
  have e2 : (48 + n % 10).toNat = 48 + n.toNat % 10 := by omega
  rw [e1, e2]
  apply ByteArray.ext
  apply Array.toList_inj.1
  simp

def U64 (n : Int) : Prop := 0 ≤ n ∧ n < 18446744073709551616

set_option maxRecDepth 100000 in
set_option maxHeartbeats 1000000 in
theorem spell_aux (k : Nat) : ∀ (n : Int) (w : World), n.toNat = k → U64 n →
    Calls Tryd.prog 22 #[.int .u64 n] w fun e w' => e = .returned (.string ⟨(Lib.decDigits n.toNat).toArray⟩) ∧ Below w.heap.size w w' := by
  induction k using Nat.strongRecOn with
  | _ k ih =>
    intro n w hk hn
    have IH := Lib.hid ih
    clear ih
    have HN := Lib.hid hn
    have h0 : 0 ≤ n := hn.1
    clear hn
    have HK := Lib.hid hk
    clear hk
    by_cases h : n < 10
    · have h48 : (48 : Int) + n < 256 := by omega
      have hge2 : (0 : Int) ≤ 48 + n := by omega
      have hcv := fun b c w' => M.run_byte_str (P := Tryd.prog) 61 9 5 Tryd.underlying61 Tryd.underlying5 Tryd.underlying9 b (48 + n) c w' hge2 h48
      clear hge2
      go_enter Tryd.func22, Tryd.ntmps22
      go_wp2
      go_ret
      refine ⟨?_, by simpa using (Below.refl _ _).alloc (Nat.le_refl _) _⟩
      rw [Lib.decDigits, dif_pos (by omega)]
      have : (48 + n).toNat = 48 + n.toNat := by omega
      rw [← this]
      rfl
    · have hl : n.toNat / 10 < k := by have := HK.out; omega
      have hu : U64 (n / 10) := by have := HN.out; unfold U64 at *; omega
      have IH2 := Lib.hid (fun w' => IH.out _ hl (n / 10) w' (by omega) hu)
      clear IH hl hu
      have hq : IntKind.u64.wrap (n.tdiv 10) = n / 10 := by
        have := HN.out
        unfold U64 at this
        exact IntWalk.u64_quo _ _ (by omega)
      have hm : n.tmod 10 = n % 10 := Int.tmod_eq_emod_of_nonneg h0
      have h48 : (48 : Int) + n % 10 < 256 := by omega
      have hge2 : (0 : Int) ≤ 48 + n % 10 := by omega
      have hL : (Lib.decDigits (n / 10).toNat).length ≤ 20 := by
        have := HN.out
        unfold U64 at this
        rw [Lib.decDigits_length]
        exact Lib.nDigits_le20 _ (by omega)
      have hw1 : IntKind.u64.wrap (48 + n % 10) = 48 + n % 10 := IntWalk.u64_in _ (by omega)
      have hw2 : IntKind.u8.wrap (48 + n % 10) = 48 + n % 10 := IntWalk.u8_in _ (by omega)
      have hcv := fun b c w' => M.run_byte_str (P := Tryd.prog) 61 9 5 Tryd.underlying61 Tryd.underlying5 Tryd.underlying9 b (48 + n % 10) c w' hge2 h48
      clear hge2
      go_enter Tryd.func22, Tryd.ntmps22
      go_wp2
      go_region_with (go_at_call 22; refine (IH2.out _).mono ?_; rintro e w1 ⟨rfl, hb⟩; obtain ⟨hc1, hf1⟩ := M.bcell hb)
      all_goals
        go_wp2
        go_ret
        refine ⟨by rw [← dec_step n h0 h]; rfl, ?_⟩
        first
          | exact (((Below.refl _ _).drew).trans hb).alloc hb.size _
          | exact (((Below.refl _ _).drew).alloc (Nat.le_refl _) _).trans (hb.mono (by simp))

theorem spell_any (n : Int) (w : World) (hn : U64 n) :
    Calls Tryd.prog 22 #[.int .u64 n] w fun e w' => e = .returned (.string ⟨(Lib.decDigits n.toNat).toArray⟩) ∧ Below w.heap.size w w' := spell_aux _ n w rfl hn

end Go.Proofs.YtjjlmhlfobmpgaaDoor
