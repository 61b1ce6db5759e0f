/-
Walks: windrowref25.Lines, Few.
-/
import Derived.Test.YtjjlmhlfobmpgaaDoorT
namespace Go.Proofs.YtjjlmhlfobmpgaaDoor
open Go.RowKit

def linesF (s : Tx.Bytes) : Nat := s.count 10

set_option maxHeartbeats 4000000 in
set_option maxRecDepth 100000 in
/-- windrowref25.Lines. -/
theorem lines_any (s : Tx.Bytes) (w : World) (hs : s.length ≤ 1000000) :
    Calls Tryd.prog 13 #[.string ⟨s.toArray⟩] w fun e w' => e = .returned (.int .i64 (linesF s)) ∧ w = w' := by
  go_enter Tryd.func13, Tryd.ntmps13
  go_wp2
  go_loopw [3, 4] (fun n i wr => ∃ k m : Nat, k ≤ s.length ∧ i = .int .i64 k ∧ n = .int .i64 m ∧ m = (s.take k).count 10 ∧ wr = w) (fun _ i _ => s.length - (intOf i).toNat)
  case atStart => exact ⟨0, 0, Nat.zero_le _, rfl, rfl, by simp, rfl⟩
  case round =>
    obtain ⟨k, m, hk, rfl, rfl, hm, rfl⟩ := hrel
    have HM := Lib.hid hm
    have hmk : m ≤ k := by rw [hm]; exact Nat.le_trans List.count_le_length (by simp; omega)
    have hsz : (⟨s.toArray⟩ : ByteArray).size = s.length := by simp [ByteArray.size]
    clear hm
    by_cases hlt : k < s.length
    · obtain ⟨c, hc⟩ : ∃ c, s[k]? = some c := ⟨_, List.getElem?_eq_getElem hlt⟩
      have hix := fun w' => M.run_index_str (P := Tryd.prog) 9 Tryd.underlying9 ⟨s.toArray⟩ .i64 (k : Int) c (by omega) (by simpa using hc) w'
      have HC := Lib.hid hc
      have HS := Lib.hid hsz
      have hlt2 : (k : Int) < (s.length : Int) := by omega
      clear hc hsz
      by_cases h10 : c.toNat = 10
      · have hct : ((c.toNat : Int) == 10) = true := by simp; omega
        have H10 := Lib.hid h10
        clear h10
        go_wp2
        go_roundw
        case rel =>
          refine ⟨k + 1, m + 1, by omega, by go_num, by go_num, ?_, by first | trivial | rfl⟩
          rw [List.take_add_one, HC.out, List.count_append, ← HM.out]
          have : c = 10 := UInt8.toNat_inj.1 H10.out
          simp [this]
        case measure => simp [intOf]; omega
      · have hct : ((c.toNat : Int) == 10) = false := by simp; omega
        have H10 := Lib.hid h10
        clear h10
        go_wp2
        go_roundw
        case rel =>
          refine ⟨k + 1, m, by omega, by go_num, rfl, ?_, by first | trivial | rfl⟩
          rw [List.take_add_one, HC.out, List.count_append, ← HM.out]
          have : c ≠ 10 := fun e => H10.out (by rw [e]; rfl)
          simp [this]
        case measure => simp [intOf]; omega
    · have hke : k = s.length := by omega
      have HKE := Lib.hid hke
      have hlt2 : ¬ (k : Int) < (s.length : Int) := by omega
      clear hke
      go_wp2
      go_ret
      refine ⟨?_, rfl⟩
      have : linesF s = m := by rw [HM.out, List.take_of_length_le (by have := HKE.out; omega)]; rfl
      rw [this]
      rfl

/-- Few. -/
def keepsN (l : List Tx.StepV) : Nat := (l.map fun x => x.keep.length).sum
def fewF (l : List Tx.StepV) : Bool := decide (l.length + keepsN l ≤ 400)

theorem keepsN_take {l : List Tx.StepV} {k : Nat} {x : Tx.StepV} (h : l[k]? = some x) : keepsN (l.take (k + 1)) = keepsN (l.take k) + x.keep.length := by
  rw [List.take_add_one, h]; simp [keepsN]

theorem keepsN_le (l : List Tx.StepV) (k : Nat) : keepsN (l.take k) ≤ keepsN l := by
  unfold keepsN
  conv => rhs; rw [← List.take_append_drop k l, List.map_append, List.sum_append]
  omega

set_option maxHeartbeats 4000000 in
set_option maxRecDepth 100000 in
/-- windrowref25.Few. -/
theorem few_any (v : Value) (l : List Tx.StepV) (w : World) (hv : StepsR w v l) (hl : l.length ≤ 9223372036854770000) (hk : ∀ x ∈ l, x.keep.length ≤ 9223372036854770000) (hd : ∀ x ∈ l, x.op.data.length = 32) :
    Calls Tryd.prog 15 #[v] w fun e w' => e = .returned (.bool (fewF l)) ∧ w = w' := by
  have HV := Lib.hid hv
  obtain ⟨a, c, rfl, -⟩ := hv
  have HK := Lib.hid hk
  have HD := Lib.hid hd
  clear hk hd
  go_enter Tryd.func15, Tryd.ntmps15
  go_wp2
  go_loopw [3, 4] (fun n i wr => ∃ k m : Nat, k ≤ l.length ∧ i = .int .i64 k ∧ n = .int .i64 m ∧ m = l.length + keepsN (l.take k) ∧ wr = w) (fun _ i _ => l.length - (intOf i).toNat)
  case atStart => exact ⟨0, l.length, Nat.zero_le _, rfl, rfl, by simp [keepsN], rfl⟩
  case round =>
    obtain ⟨k, m, hk, rfl, rfl, hm, rfl⟩ := hrel
    have HM := Lib.hid hm
    clear hm
    by_cases hlt : k < l.length
    · obtain ⟨x, hx⟩ : ∃ x, l[k]? = some x := ⟨_, List.getElem?_eq_getElem hlt⟩
      have hxl := List.mem_of_getElem? hx
      by_cases hm4 : m ≤ 400
      · obtain ⟨a', c', hac, hh⟩ := HV.out
        obtain ⟨b, o, ha, hcells⟩ := hh (by intro e; rw [e] at hlt; simp at hlt)
        injection hac with hac1 hac2 hac3
        subst hac1
        subst ha
        obtain ⟨kv, hr, a2, c2, rfl, hkv⟩ := hcells k x hx
        have hc39 : wr.cell? ⟨b, o + k * 42 + 39, none⟩ = some (.slice a2 x.keep.length c2) := by
          exact hr 39 _ (stepCells_at (HD.out x hxl)).2.2.2.1
        have hkl := HK.out x hxl
        have hlt2 : (k : Int) < (l.length : Int) := by omega
        have hm5 : (m : Int) ≤ 400 := by omega
        have HXI := Lib.hid hx
        clear hr hkv hx hcells hh hac2 hac3
        go_wp2
        go_roundw
        case rel =>
          refine ⟨k + 1, m + x.keep.length, by omega, by go_num, by go_num, ?_, by first | trivial | rfl⟩
          rw [keepsN_take HXI.out, HM.out]; omega
        case measure => simp [intOf]; omega
      · have hlt2 : (k : Int) < (l.length : Int) := by omega
        have hm5 : ¬ (m : Int) ≤ 400 := by omega
        go_wp2
        go_ret
        have : fewF l = false := by
          unfold fewF
          have h1 := HM.out
          have h2 := keepsN_le l k
          simp; omega
        refine ⟨?_, rfl⟩
        rw [this]; simp <;> omega
    · have hke : k = l.length := by omega
      have HKE := Lib.hid hke
      have hlt2 : ¬ (k : Int) < (l.length : Int) := by omega
      clear hke
      go_wp2
      go_ret
      refine ⟨?_, rfl⟩
      have : fewF l = decide ((m : Int) ≤ 400) := by
        have h1 := HM.out
        rw [List.take_of_length_le (by have := HKE.out; omega)] at h1
        unfold fewF
        rw [h1]
        congr 1
        simp; omega
      rw [this]
      rfl

end Go.Proofs.YtjjlmhlfobmpgaaDoor
