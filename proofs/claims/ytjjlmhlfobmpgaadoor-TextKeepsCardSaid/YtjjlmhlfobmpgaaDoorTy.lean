/-
What is printed is read as it was, and what is read is printed as it was: plain lists, no program here.
-/
import Derived.Test.YtjjlmhlfobmpgaaDoorTx
namespace Go.Proofs.YtjjlmhlfobmpgaaDoor.Tx
open Go.Lib

/-! ### words between spaces -/

theorem splitS_ne (s : Bytes) : splitS s ≠ [] := by
  cases s with
  | nil => simp [splitS]
  | cons c r =>
    unfold splitS
    split
    · simp
    · split <;> simp

theorem splitS_word {w : Bytes} (h : (32 : UInt8) ∉ w) : splitS w = [w] := by
  induction w with
  | nil => rfl
  | cons c r ih =>
    have hc : ¬ c = 32 := fun e => h (by simp [e])
    have hr : (32 : UInt8) ∉ r := fun e => h (List.mem_cons_of_mem _ e)
    unfold splitS
    rw [if_neg hc, ih hr]

theorem splitS_app {w : Bytes} (h : (32 : UInt8) ∉ w) (r : Bytes) : splitS (w ++ 32 :: r) = w :: splitS r := by
  induction w with
  | nil => simp [splitS]
  | cons c t ih =>
    have hc : ¬ c = 32 := fun e => h (by simp [e])
    have hr : (32 : UInt8) ∉ t := fun e => h (List.mem_cons_of_mem _ e)
    rw [List.cons_append]
    conv => lhs; unfold splitS
    rw [if_neg hc, ih hr]

theorem join_cons2 (x y : Bytes) (r : List Bytes) : join (x :: y :: r) [32] = x ++ 32 :: join (y :: r) [32] := by
  rw [join_cons, join_cons]
  simp [joinTail]

theorem splitS_join : ∀ {l : List Bytes}, l ≠ [] → (∀ w ∈ l, (32 : UInt8) ∉ w) → splitS (join l [32]) = l
  | [], h, _ => absurd rfl h
  | [x], _, hw => by rw [join_one]; exact splitS_word (hw x (by simp))
  | x :: y :: r, _, hw => by
    rw [join_cons2, splitS_app (hw x (by simp)), splitS_join (by simp) (fun w h => hw w (List.mem_cons_of_mem _ h))]

theorem join_splitS : ∀ s : Bytes, join (splitS s) [32] = s
  | [] => by simp [splitS, join_one]
  | c :: r => by
    have ih := join_splitS r
    have hne := splitS_ne r
    unfold splitS
    split
    · rename_i hc
      subst hc
      cases hs : splitS r with
      | nil => exact absurd hs hne
      | cons a t => rw [join_cons2, ← hs, ih]; rfl
    · cases hs : splitS r with
      | nil => exact absurd hs hne
      | cons a t =>
        rw [hs] at ih
        show join ((c :: a) :: t) [32] = c :: r
        rw [← ih, join_cons, join_cons]
        rfl

theorem splitS_no32 : ∀ (s : Bytes), ∀ w ∈ splitS s, (32 : UInt8) ∉ w
  | [] => by simp [splitS]
  | c :: r => by
    have ih := splitS_no32 r
    unfold splitS
    split
    · intro w hw
      rcases List.mem_cons.1 hw with rfl | hw
      · simp
      · exact ih w hw
    · rename_i hc
      cases hs : splitS r with
      | nil => exact absurd hs (splitS_ne r)
      | cons a t =>
        rw [hs] at ih
        intro w hw
        rcases List.mem_cons.1 hw with rfl | hw
        · intro h
          rcases List.mem_cons.1 h with h | h
          · exact hc h.symm
          · exact ih a (by simp) h
        · exact ih w (List.mem_cons_of_mem _ hw)

/-! ### numbers -/

theorem dec_digit (u : Nat) : ∀ c ∈ decDigits u, 48 ≤ c.toNat ∧ c.toNat ≤ 57 := by
  induction u using Nat.strongRecOn with
  | _ u ih =>
    intro c hc
    rw [decDigits] at hc
    split at hc
    · rename_i h
      simp only [List.mem_singleton] at hc
      subst hc
      have : (UInt8.ofNat (48 + u)).toNat = 48 + u := by simp; omega
      omega
    · rename_i h
      rcases List.mem_append.1 hc with hc | hc
      · exact ih (u / 10) (by omega) c hc
      · simp only [List.mem_singleton] at hc
        subst hc
        have : (UInt8.ofNat (48 + u % 10)).toNat = 48 + u % 10 := by simp; omega
        omega

theorem parse_app : ∀ (l : Bytes) (acc : Nat) (c : UInt8) (a : Nat), parseUint10 acc l = .ok a → parseUint10 acc (l ++ [c]) = parseUint10 a [c]
  | [], acc, c, a, h => by simp only [parseUint10] at h; injection h with h; subst h; rfl
  | x :: r, acc, c, a, h => by
    simp only [parseUint10, List.cons_append] at h ⊢
    split at h
    · split at h
      · cases h
      · split at h
        · cases h
        · rename_i h1 h2 h3
          rw [if_pos h1, if_neg h2, if_neg h3]
          exact parse_app r _ c a h
    · cases h

theorem parse_dec (u : Nat) (hu : u < 18446744073709551616) : parseUint10 0 (decDigits u) = .ok u := by
  induction u using Nat.strongRecOn with
  | _ u ih =>
    rw [decDigits]
    split
    · rename_i h
      have e : (UInt8.ofNat (48 + u)).toNat = 48 + u := by simp; omega
      simp only [parseUint10, e]
      rw [if_pos (by omega), if_neg (by omega), if_neg (by omega)]
      congr 1
      omega
    · rename_i h
      rw [parse_app _ _ _ _ (ih (u / 10) (by omega) (by omega))]
      have e : (UInt8.ofNat (48 + u % 10)).toNat = 48 + u % 10 := by simp; omega
      simp only [parseUint10, e]
      rw [if_pos (by omega), if_neg (by omega), if_neg (by omega)]
      congr 1
      omega

theorem dec_ne (u : Nat) : decDigits u ≠ [] := by
  rw [decDigits]; split <;> simp

theorem mag_dec (u : Nat) (hu : u < 18446744073709551616) : parseMag (decDigits u) = .ok u := by
  unfold parseMag
  rw [if_neg (dec_ne u), parse_dec u hu]

theorem soft_dec (u : Nat) (hu : u < 18446744073709551616) : softV (decDigits u) = some u := by
  unfold softV
  rw [parseUintB_64, mag_dec u hu]
  simp

theorem soft_some {s : Bytes} {u : Nat} (h : softV s = some u) : s = decDigits u ∧ u < 18446744073709551616 := by
  unfold softV at h
  rw [parseUintB_64] at h
  split at h
  · rename_i v hv
    split at h
    · rename_i he
      injection h with h
      subst h
      exact ⟨he.symm, parseMag_lt hv⟩
    · cases h
  · cases h

theorem itoa_nat {n : Int} (h : 0 ≤ n) : itoa n = decDigits n.toNat := by
  unfold itoa; rw [if_neg (by omega)]

theorem atoi_dec (u : Nat) (hu : u < 9223372036854775808) : atoiAll (decDigits u) = .ok (u : Int) := by
  have hm := mag_dec u (by omega)
  have hd := dec_digit u
  cases hs : decDigits u with
  | nil => exact absurd hs (dec_ne u)
  | cons c r =>
    rw [hs] at hm hd
    have hc := hd c (by simp)
    rw [atoiAll_plain c r (by omega) (by omega), hm]
    simp [signless]
    omega

theorem num_itoa {n : Int} (h : fits n = true) : numV (itoa n) = some n := by
  simp only [fits, Bool.and_eq_true, decide_eq_true_eq] at h
  unfold numV
  have e : atoiAll (itoa n) = .ok n := by
    rw [itoa_nat h.1, atoi_dec _ (by omega)]
    congr 1
    omega
  rw [e]
  simp [h.1, h.2]

theorem num_some {s : Bytes} {n : Int} (h : numV s = some n) : s = itoa n ∧ fits n = true := by
  unfold numV at h
  split at h
  · split at h
    · rename_i h1
      injection h with h
      subst h
      exact ⟨h1.2.2.symm, by simp [fits, h1.1, h1.2.1]⟩
    · cases h
  · cases h

theorem dec_no {u : Nat} {c : UInt8} (hc : c.toNat < 48) : c ∉ decDigits u := fun h => by
  have := dec_digit u c h; omega

theorem itoa_no {n : Int} {c : UInt8} (h : fits n = true) (hc : c.toNat < 48) : c ∉ itoa n := by
  simp only [fits, Bool.and_eq_true, decide_eq_true_eq] at h
  rw [itoa_nat h.1]
  exact dec_no hc

/-! ### data -/

theorem hexDig_toNat {n : Nat} (h : n < 16) : (hexDig n).toNat = if n < 10 then 48 + n else 87 + n := by
  unfold hexDig
  split <;> simp <;> omega

theorem hexVal_dig {n : Nat} (h : n < 16) : hexVal (hexDig n) = some n := by
  have e := hexDig_toNat h
  unfold hexVal
  rw [e]
  by_cases h1 : n < 10
  · rw [if_pos h1, if_pos (by omega)]
    congr 1; omega
  · rw [if_neg h1, if_neg (by omega), if_pos (by omega)]
    congr 1; omega

theorem hexVal_some {c : UInt8} {n : Nat} (h : hexVal c = some n) : n < 16 ∧ c = hexDig n := by
  unfold hexVal at h
  split at h
  · injection h with h
    subst h
    refine ⟨by omega, UInt8.toNat_inj.1 ?_⟩
    rw [hexDig_toNat (by omega), if_pos (by omega)]
    omega
  · split at h
    · injection h with h
      subst h
      refine ⟨by omega, UInt8.toNat_inj.1 ?_⟩
      rw [hexDig_toNat (by omega), if_neg (by omega)]
      omega
    · cases h

theorem pairs_hex : ∀ d : Bytes, dataPairs (hexF d) = some d
  | [] => rfl
  | b :: r => by
    have hb := b.toNat_lt
    have e : hexF (b :: r) = hexDig (b.toNat / 16) :: hexDig (b.toNat % 16) :: hexF r := by simp [hexF]
    rw [e]
    simp only [dataPairs]
    rw [hexVal_dig (by omega), hexVal_dig (by omega), pairs_hex r]
    have : 16 * (b.toNat / 16) + b.toNat % 16 = b.toNat := by omega
    simp [this]

theorem pairs_some : ∀ (s d : Bytes), dataPairs s = some d → hexF d = s
  | [], d, h => by simp [dataPairs] at h; subst h; rfl
  | [_], d, h => by simp [dataPairs] at h
  | a :: b :: r, d, h => by
    simp only [dataPairs] at h
    split at h
    · rename_i x y t hx hy ht
      injection h with h
      subst h
      have ih := pairs_some r t ht
      obtain ⟨hx1, hx2⟩ := hexVal_some hx
      obtain ⟨hy1, hy2⟩ := hexVal_some hy
      have e : (UInt8.ofNat (16 * x + y)).toNat = 16 * x + y := by simp; omega
      have e2 : hexF (UInt8.ofNat (16 * x + y) :: t) = hexDig ((UInt8.ofNat (16 * x + y)).toNat / 16) :: hexDig ((UInt8.ofNat (16 * x + y)).toNat % 16) :: hexF t := by simp [hexF]
      rw [e2, e, ih, hx2, hy2]
      congr 2
      · congr 1; omega
      · congr 2; omega
    · cases h

theorem hexF_length (d : Bytes) : (hexF d).length = 2 * d.length := by
  induction d with
  | nil => rfl
  | cons b r ih => simp only [hexF, List.flatMap_cons, List.length_append, List.length_cons, List.length_nil] at ih ⊢; omega

theorem data_hex {d : Bytes} (h : d.length = 32) : dataF (hexF d) = some d := by
  unfold dataF
  rw [if_pos (by rw [hexF_length]; omega), pairs_hex]

theorem data_some {s d : Bytes} (h : dataF s = some d) : s = hexF d ∧ d.length = 32 := by
  unfold dataF at h
  split at h
  · have e := pairs_some s d h
    have := hexF_length d
    rw [e] at this
    exact ⟨e.symm, by omega⟩
  · cases h

theorem hexDig_ge (n : Nat) (h : n < 16) : 48 ≤ (hexDig n).toNat := by
  rw [hexDig_toNat h]; split <;> omega

theorem hex_no {d : Bytes} {c : UInt8} (hc : c.toNat < 48) : c ∉ hexF d := by
  intro h
  simp only [hexF, List.mem_flatMap] at h
  obtain ⟨b, _, h⟩ := h
  have hb := b.toNat_lt
  rcases List.mem_cons.1 h with h | h
  · have := hexDig_ge (b.toNat / 16) (by omega); rw [← h] at this; omega
  · have h' := List.mem_singleton.1 h
    have := hexDig_ge (b.toNat % 16) (by omega); rw [← h'] at this; omega

end Go.Proofs.YtjjlmhlfobmpgaaDoor.Tx
