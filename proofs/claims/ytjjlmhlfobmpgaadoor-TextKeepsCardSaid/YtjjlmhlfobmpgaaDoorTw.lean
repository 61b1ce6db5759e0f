/-
The library's cuts against layer 25's: no program here.
-/
import Derived.Test.YtjjlmhlfobmpgaaDoorTz
import Derived.Lib.SplitLaws
namespace Go.Proofs.YtjjlmhlfobmpgaaDoor.Tx
open Go.Lib

theorem index_eq (c : UInt8) (l : Bytes) : index (c :: l) [c] = 0 := by rw [index]; simp [List.isPrefixOf]
theorem index_ne {b c : UInt8} (l : Bytes) (h : b ≠ c) : index (b :: l) [c] = if index l [c] == -1 then -1 else index l [c] + 1 := by
  have hp : ([c] : List UInt8).isPrefixOf (b :: l) = false := by simp [List.isPrefixOf, Ne.symm h]
  rw [index, hp]; simp

theorem splitK_ne (b : UInt8) (l : Bytes) (h : b ≠ 32) : ∀ k, splitK [32] 0 k (b :: l) = match splitK [32] 0 k l with
    | x :: t => (b :: x) :: t
    | [] => [[b]]
  | 0 => rfl
  | k + 1 => by
    have hi := index_ne l h
    by_cases hm : index l [32] = -1
    · have : index (b :: l) [32] = -1 := by rw [hi, if_pos (beq_iff_eq.2 hm)]
      simp [splitK, this, hm]
    · have hge := index_ge l [32]
      obtain ⟨j, hj⟩ : ∃ j : Nat, index l [32] = j := ⟨(index l [32]).toNat, by omega⟩
      have : index (b :: l) [32] = ((j + 1 : Nat) : Int) := by rw [hi, if_neg (fun e => hm (beq_iff_eq.1 e)), hj]; omega
      have h1 : ¬ ((j : Int) + 1 = -1) := by omega
      have h2 : ¬ ((j : Int) = -1) := by omega
      have h3 : ((j : Int) + 1).toNat = j + 1 := by omega
      simp [splitK, this, hj, h1, h2, h3]

theorem split_eq : ∀ s : Bytes, split s [32] = splitS s
  | [] => by
    unfold split
    rw [count_miss (by simp [index])]
    rfl
  | b :: l => by
    have ih := split_eq l
    unfold split at ih ⊢
    by_cases h : b = 32
    · subst h
      rw [count_cons_eq, Nat.add_comm]
      simp [splitK, index_eq, splitS, ih]
    · rw [count_cons_ne b 32 l h, splitK_ne b l h, ih]
      conv => rhs; unfold splitS
      rw [if_neg h]
      cases splitS l <;> rfl

theorem cut_eq : ∀ s : Bytes, cutL s = if (cut s [10]).2.2 then some ((cut s [10]).1, (cut s [10]).2.1) else none
  | [] => by simp [cut, index, cutL]
  | b :: l => by
    have ih := cut_eq l
    unfold cutL
    by_cases h : b = 10
    · subst h
      simp [cut, index_eq]
    · rw [if_neg h, ih]
      have hi := index_ne l h
      by_cases hm : index l [10] = -1
      · have : index (b :: l) [10] = -1 := by rw [hi, if_pos (beq_iff_eq.2 hm)]
        simp [cut, this, hm]
      · have hge := index_ge l [10]
        obtain ⟨j, hj⟩ : ∃ j : Nat, index l [10] = j := ⟨(index l [10]).toNat, by omega⟩
        have : index (b :: l) [10] = ((j + 1 : Nat) : Int) := by rw [hi, if_neg (fun e => hm (beq_iff_eq.1 e)), hj]; omega
        have h0 : (0 : Int) ≤ (j : Int) + 1 := by omega
        have h1 : (0 : Int) ≤ j := by omega
        have h3 : ((j : Int) + 1).toNat = j + 1 := by omega
        simp [cut, this, hj, h0, h1, h3]

theorem splitS_len : ∀ s : Bytes, (splitS s).length ≤ s.length + 1
  | [] => by simp [splitS]
  | b :: l => by
    have ih := splitS_len l
    unfold splitS
    split
    · simp; omega
    · split
      · rename_i h t hs; rw [hs] at ih; simp at ih ⊢; omega
      · simp

theorem splitS_short : ∀ (s : Bytes), ∀ w ∈ splitS s, w.length ≤ s.length
  | [], w, h => by simp [splitS] at h; simp [h]
  | b :: l, w, hw => by
    have ih := splitS_short l
    unfold splitS at hw
    split at hw
    · rcases List.mem_cons.1 hw with rfl | hw
      · simp
      · have := ih w hw; simp; omega
    · split at hw
      · rename_i h t hs
        rw [hs] at ih
        rcases List.mem_cons.1 hw with rfl | hw
        · have := ih h (by simp); simp; omega
        · have := ih w (by simp [hw]); simp; omega
      · simp at hw; subst hw; simp

theorem crash_op {l : List Bytes} {x : StepV} (h : crashF l = some x) : x.op = op0 := by
  unfold crashF at h
  split at h
  · split at h
    · injection h with h; subst h; rfl
    · cases h
  · cases h

theorem nums_len : ∀ (l : List Bytes) (k : List Int), numsF l = some k → k.length = l.length
  | [], k, h => by simp [numsF] at h; subst h; rfl
  | f :: r, k, h => by
    simp only [numsF] at h
    split at h
    · rename_i n t hn ht
      injection h with h
      subst h
      simp [nums_len r t ht]
    · cases h

theorem step_keep {s : Bytes} {x : StepV} (h : stepF s = some x) : x.keep.length ≤ (splitS s).length := by
  unfold stepF stepL at h
  split at h
  · unfold crashF at h
    split at h
    · rename_i a b c r hl
      split at h
      · rename_i u n k hu hn hk
        injection h with h
        subst h
        have := nums_len _ _ hk
        rw [hl]
        show k.length ≤ _
        simp
        omega
      · cases h
    · cases h
  · split at h
    · unfold armF at h
      split at h
      · split at h
        · split at h
          · injection h with h; subst h; simp [step0]
          · cases h
        · cases h
      · cases h
    · cases ho : operationF (splitS s) with
      | none => simp [ho] at h
      | some o => simp [ho] at h; subst h; simp [step0]

theorem args_data : ∀ (t : Bytes) (r : List Bytes) (o o' : OpV), argsF o t r = some o' → o.data.length = 32 → o'.data.length = 32
  | [], _, o, o', h, hd => by simp [argsF] at h; subst h; exact hd
  | _ :: _, [], o, o', h, hd => by simp [argsF] at h; subst h; exact hd
  | c :: t, f :: r, o, o', h, hd => by
    simp only [argsF] at h
    split at h
    · rename_i o1 ho1
      refine args_data t r o1 o' h ?_
      unfold argF at ho1
      split at ho1
      · cases hn : numV f with
        | none => simp [hn] at ho1
        | some n => simp [hn] at ho1; subst ho1; exact hd
      · split at ho1
        · cases hn : numV f with
          | none => simp [hn] at ho1
          | some n => simp [hn] at ho1; subst ho1; exact hd
        · split at ho1
          · cases hn : numV f with
            | none => simp [hn] at ho1
            | some n => simp [hn] at ho1; subst ho1; exact hd
          · cases hn : dataF f with
            | none => simp [hn] at ho1
            | some n => simp [hn] at ho1; subst ho1; exact (data_some hn).2
    · cases h

theorem step_data {s : Bytes} {x : StepV} (h : stepF s = some x) : x.op.data.length = 32 := by
  unfold stepF stepL at h
  split at h
  · rw [crash_op h]; rfl
  · split at h
    · unfold armF at h
      split at h
      · split at h
        · split at h
          · injection h with h; subst h; rfl
          · cases h
        · cases h
      · cases h
    · cases ho : operationF (splitS s) with
      | none => simp [ho] at h
      | some o =>
        simp [ho] at h
        subst h
        unfold operationF at ho
        split at ho
        · exact args_data _ _ _ _ ho rfl
        · cases ho

end Go.Proofs.YtjjlmhlfobmpgaaDoor.Tx
