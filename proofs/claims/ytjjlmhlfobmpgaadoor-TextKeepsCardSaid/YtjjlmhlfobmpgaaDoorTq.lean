/-
The two texts of 'awake'. No program here.
-/
import Derived.Test.YtjjlmhlfobmpgaaDoorTp
namespace Go.Proofs.YtjjlmhlfobmpgaaDoor.Tx
open Go.Lib

def aw1 : Bytes := [99, 111, 109, 109, 105, 116, 32, 51, 10, 115, 121, 110, 99, 32, 52, 10, 97, 114, 109, 32, 50, 10, 99, 114, 97, 115, 104, 32, 53, 32, 48, 32, 49, 32, 50, 10]
def aw2 : Bytes := [109, 111, 117, 110, 116, 10, 99, 111, 109, 109, 105, 116, 32, 48, 51, 10]
def as1 : StepV := { step0 with op := { op0 with kind := 7, id := 3 } }
def as2 : StepV := { step0 with op := { op0 with kind := 7, id := 4, sync := true } }
def as3 : StepV := { step0 with arm := 2 }
def as4 : StepV := { step0 with crash := true, soft := 5, keep := [1, 2] }

theorem dec_small {n : Nat} (h : n < 10) : decDigits n = [UInt8.ofNat (48 + n)] := by rw [decDigits, dif_pos h]

theorem as_ok : ∀ x ∈ [as1, as2, as3, as4], PlainS x := by
  have z : op0.data.length = 32 := by simp [op0, zeros]
  have o0 : opEq op0 op0 = true := (opEq_iff _ _).2 rfl
  intro x hx
  simp only [List.mem_cons, List.not_mem_nil, or_false] at hx
  rcases hx with rfl | rfl | rfl | rfl
  · refine plainS_of_ref ⟨by decide, z⟩ (t := lineF as1) ?_
    have e : opEq as1.op as1.op = true := (opEq_iff _ _).2 rfl
    simp [refLine, as1, step0, op0, nameF, refArgs, refArg, fits, lineF, lineL, fieldsF, words, tellF, itoa_nat, dec_small, opEq, join_map]
  · refine plainS_of_ref ⟨by decide, z⟩ (t := lineF as2) ?_
    simp [refLine, as2, step0, op0, nameF, refArgs, refArg, fits, lineF, lineL, fieldsF, words, tellF, itoa_nat, dec_small, opEq, join_map]
  · refine plainS_of_ref ⟨by decide, z⟩ (t := lineF as3) ?_
    simp [refLine, as3, step0, o0, fits, lineF, lineL, itoa_nat, dec_small, join_map]
  · refine plainS_of_ref ⟨by decide, z⟩ (t := lineF as4) ?_
    simp [refLine, as4, step0, o0, fits, lineF, lineL, itoa_nat, dec_small, join_map, refKeep]

theorem aw1_ok : parseA aw1 = .ok [as1, as2, as3, as4] := by
  have h := parse_print as_ok
  have e : printF [as1, as2, as3, as4] = aw1 := by
    simp [printF, lineF, lineL, as1, as2, as3, as4, step0, op0, fieldsF, words, tellF, itoa_nat, dec_small, join_map, crashW, armW, aw1]
  rw [e] at h
  exact h

def as0 : StepV := { step0 with op := { op0 with kind := 2 } }

theorem aw2_no : parseA aw2 = .error 2 := by
  have z : op0.data.length = 32 := by simp [op0, zeros]
  have h0 : PlainS as0 := by
    refine plainS_of_ref ⟨by decide, z⟩ (t := lineF as0) ?_
    simp [refLine, as0, step0, op0, nameF, refArgs, lineF, lineL, fieldsF, words, opEq, join_map]
  have h1 := parse_lines [as0] 1 (aw2.length + 1) [99, 111, 109, 109, 105, 116, 32, 48, 51, 10] [] (by simpa using h0) (by decide)
  have e : printF [as0] ++ [99, 111, 109, 109, 105, 116, 32, 48, 51, 10] = aw2 := by
    simp [printF, lineF, lineL, as0, step0, op0, fieldsF, words, join_map, aw2]
  rw [e] at h1
  unfold parseA
  rw [h1]
  have h2 : numV [48, 51] = none := by
    cases h : numV [48, 51] with
    | none => rfl
    | some n =>
      exfalso
      obtain ⟨h3, h4⟩ := num_some h
      simp only [fits, Bool.and_eq_true, decide_eq_true_eq] at h4
      rw [itoa_nat h4.1] at h3
      by_cases h10 : n.toNat < 10
      · rw [dec_small h10] at h3; simp at h3
      · rw [decDigits, dif_neg h10] at h3
        have h5 : decDigits (n.toNat / 10) = [48] := by
          have := List.append_inj_left' (s₁ := [48]) (t₁ := [51]) h3 rfl
          exact this.symm
        by_cases h11 : n.toNat / 10 < 10
        · rw [dec_small h11] at h5
          simp only [List.cons.injEq, and_true] at h5
          have h6 := congrArg UInt8.toNat h5
          simp at h6
          omega
        · rw [decDigits, dif_neg h11] at h5
          have := congrArg List.length h5
          simp at this
          exact dec_ne _ this
  have h3 : stepF [99, 111, 109, 109, 105, 116, 32, 48, 51] = none := by
    simp [stepF, splitS, stepL, crashW, armW, operationF, words, argsF, argF, h2]
  have e2 : aw2.length + 1 - [as0].length = 15 + 1 := by decide
  rw [e2]
  unfold parseF
  simp [cutL, h3]

end Go.Proofs.YtjjlmhlfobmpgaaDoor.Tx
