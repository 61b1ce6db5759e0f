/-
Walks: text.number.
-/
import Derived.Test.YtjjlmhlfobmpgaaDoorB
namespace Go.Proofs.YtjjlmhlfobmpgaaDoor
open Go.RowKit

theorem ret_nb {k : IntKind} {a b : Int} {x y : Bool} (h : a = b) (h2 : x = y) : Ending.returned (.tuple #[.int k a, .bool x]) = .returned (.tuple #[.int k b, .bool y]) := by rw [h, h2]

theorem beq_bytes {l : List UInt8} {s : ByteArray} (h : s.data.toList = l) : (l == s.toList) = true := by rw [ByteArray.toList_eq, h]; simp
theorem beq_bytes_no {l : List UInt8} {s : ByteArray} (h : s.data.toList ≠ l) : (l == s.toList) = false := by
  rw [ByteArray.toList_eq]; simp only [beq_eq_false_iff_ne]; exact fun e => h e.symm

set_option maxHeartbeats 1000000 in
theorem number_yes (s : ByteArray) (v : Int) (w : World) (hs : s.size ≤ 140737488355328) (h : Tx.numV s.data.toList = some v) (L : Ld w) :
    Calls Tryd.prog 33 #[.string s] w fun e w' => e = .returned (.tuple #[.int .i64 v, .bool true]) ∧ Below w.heap.size w w' := by
  obtain ⟨he, hf⟩ := Tx.num_some h
  have hat : Lib.atoiAll s.data.toList = .ok v := by
    rw [he, Tx.itoa_nat (by simp [Tx.fits] at hf; exact hf.1), Tx.atoi_dec _ (by simp [Tx.fits] at hf; omega)]
    simp [Tx.fits] at hf
    congr 1; omega
  have h0 : 0 ≤ v := by simp [Tx.fits] at hf; omega
  have h1 : v ≤ 999999 := by simp [Tx.fits] at hf; omega
  have hi : I64 v := by unfold I64; omega
  have HI := Lib.hid hi
  have HA := Lib.hid hat
  have HE := Lib.hid he
  clear he hf hat h hi
  go_enter Tryd.func33, Tryd.ntmps33
  go_wp2_with fail
  go_at_call 45
  refine (atoi_yes s v _ hs HA.out).mono ?_
  rintro e w1 ⟨rfl, hb1⟩
  have L1 := L.below hb1
  go_wp2_with fail
  go_at_call 37
  refine (itoa_any v _ HI.out L1).mono ?_
  rintro e w2 ⟨rfl, hb2⟩
  go_wp2
  go_ret2
  exact ⟨ret_nb rfl (beq_bytes HE.out), hb1.trans (hb2.mono hb1.size)⟩

/-- A number, and false: whatever the number. -/
def NumNo (w : World) (e : Ending) (w' : World) : Prop := ∃ v, e = .returned (.tuple #[.int .i64 v, .bool false]) ∧ Below w.heap.size w w'

set_option maxHeartbeats 1000000 in
theorem number_no (s : ByteArray) (w : World) (hs : s.size ≤ 140737488355328) (h : Tx.numV s.data.toList = none) (L : Ld w) :
    Calls Tryd.prog 33 #[.string s] w (NumNo w) := by
  have H := Lib.hid h
  clear h
  cases hat : Lib.atoiAll s.data.toList with
  | ok v =>
    have hi : I64 v := Lib.atoiAll_bounds hat
    have HI := Lib.hid hi
    have HA := Lib.hid hat
    clear hat hi
    by_cases h0 : 0 ≤ v
    · by_cases h1 : v ≤ 999999
      · have hne : s.data.toList ≠ Lib.itoa v := fun e => by
          have := H.out
          unfold Tx.numV at this
          rw [HA.out] at this
          simp [h0, h1, e.symm] at this
        have HE := Lib.hid hne
        clear hne
        go_enter Tryd.func33, Tryd.ntmps33
        go_wp2_with fail
        go_at_call 45
        refine (atoi_yes s v _ hs HA.out).mono ?_
        rintro e w1 ⟨rfl, hb1⟩
        have L1 := L.below hb1
        go_wp2_with fail
        go_at_call 37
        refine (itoa_any v _ HI.out L1).mono ?_
        rintro e w2 ⟨rfl, hb2⟩
        go_wp2
        go_ret2
        exact ⟨v, ret_nb rfl (beq_bytes_no HE.out), hb1.trans (hb2.mono hb1.size)⟩
      · go_enter Tryd.func33, Tryd.ntmps33
        go_wp2_with fail
        go_at_call 45
        refine (atoi_yes s v _ hs HA.out).mono ?_
        rintro e w1 ⟨rfl, hb1⟩
        go_wp2
        go_ret2
        exact ⟨v, rfl, hb1⟩
    · go_enter Tryd.func33, Tryd.ntmps33
      go_wp2_with fail
      go_at_call 45
      refine (atoi_yes s v _ hs HA.out).mono ?_
      rintro e w1 ⟨rfl, hb1⟩
      go_wp2
      go_ret2
      exact ⟨v, rfl, hb1⟩
  | _ =>
    all_goals
      have hno := Lib.hid (show ∀ v, Lib.atoiAll s.data.toList ≠ .ok v from fun v e => by rw [hat] at e; cases e)
      clear hat
      go_enter Tryd.func33, Tryd.ntmps33
      go_wp2_with fail
      go_at_call 45
      refine (atoi_no s _ hs hno.out L).mono ?_
      rintro e w1 ⟨v, p, rfl, hb1⟩
      go_wp2
      go_ret2
      exact ⟨v, rfl, hb1⟩

end Go.Proofs.YtjjlmhlfobmpgaaDoor
