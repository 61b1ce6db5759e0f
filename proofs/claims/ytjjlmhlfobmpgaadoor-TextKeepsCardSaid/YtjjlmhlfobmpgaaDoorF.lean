/-
Walks: text.data.
-/
import Derived.Test.YtjjlmhlfobmpgaaDoorD
namespace Go.Proofs.YtjjlmhlfobmpgaaDoor
open Go.RowKit

def hv (s : Tx.Bytes) (j : Nat) : Nat := ((s[j]?.bind Tx.hexVal).getD 0)

/-- What is gathered of the data behind i digits. -/
def dpre (s : Tx.Bytes) (i : Nat) : Tx.Bytes := (List.range 32).map fun j => if 2 * j + 1 < i then UInt8.ofNat (16 * hv s (2 * j) + hv s (2 * j + 1)) else if 2 * j < i then UInt8.ofNat (hv s (2 * j)) else 0

theorem idx_fin : ∀ n : Fin 256, Lib.indexByte [48, 49, 50, 51, 52, 53, 54, 55, 56, 57, 97, 98, 99, 100, 101, 102] (UInt8.ofNat n.val) = match Tx.hexVal (UInt8.ofNat n.val) with | some v => (v : Int) | none => -1 := by decide +kernel
theorem idx_at (c : UInt8) : Lib.indexByte [48, 49, 50, 51, 52, 53, 54, 55, 56, 57, 97, 98, 99, 100, 101, 102] c = match Tx.hexVal c with | some v => (v : Int) | none => -1 := by
  have := idx_fin ⟨c.toNat, c.toNat_lt⟩
  simpa using this

/-- What text.data answers: the data, and true; or whatever data, and false. -/
def DataP (r : Option Tx.Bytes) (w : World) (e : Ending) (w' : World) : Prop :=
  Below w.heap.size w w' ∧ match r with
  | some d => e = .returned (.tuple #[.agg (d.map bv).toArray, .bool true])
  | none => ∃ cs : Array Value, e = .returned (.tuple #[.agg cs, .bool false]) ∧ cs.size = 32 ∧ cs.all (·.oneCell') = true

theorem indexByte_dig (c : UInt8) (w : World) :
    Calls Tryd.prog 64 #[.string ⟨#[48, 49, 50, 51, 52, 53, 54, 55, 56, 57, 97, 98, 99, 100, 101, 102]⟩, .int .u8 (c.toNat : Int)] w fun e w' => e = .returned (.int .i64 (match Tx.hexVal c with | some v => (v : Int) | none => -1)) ∧ w = w' :=
  (Tryd.strings_IndexByte _ _ w).mono fun e w' ⟨he, hw⟩ => ⟨by rw [he, ← idx_at]; simp, hw.symm⟩

def Z32 : Array Value := Array.replicate 32 (.int .u8 0)

theorem one_Z32 : (Z32.all fun x => x.oneCell') = true := by kernel_rfl

theorem dpre_zero (s : Tx.Bytes) : ((dpre s 0).map bv).toArray = Z32 := by
  have : dpre s 0 = List.replicate 32 0 := by
    unfold dpre; simp; rfl
  rw [this]; rfl

theorem dpre_len (s : Tx.Bytes) (i : Nat) : (dpre s i).length = 32 := by simp [dpre]

theorem hv_lt (s : Tx.Bytes) (j : Nat) : hv s j < 16 := by
  unfold hv
  cases h : s[j]?.bind Tx.hexVal with
  | none => simp
  | some v =>
    obtain ⟨c, _, hc⟩ := Option.bind_eq_some_iff.1 h
    simpa using (Tx.hexVal_some hc).1

def dval (s : Tx.Bytes) (i j : Nat) : UInt8 := if 2 * j + 1 < i then UInt8.ofNat (16 * hv s (2 * j) + hv s (2 * j + 1)) else if 2 * j < i then UInt8.ofNat (hv s (2 * j)) else 0

theorem dpre_at (s : Tx.Bytes) (i j : Nat) (hj : j < 32) : (dpre s i)[j]? = some (dval s i j) := by
  unfold dpre
  rw [List.getElem?_map, List.getElem?_range hj]
  rfl

theorem dval_mid (s : Tx.Bytes) (k : Nat) : (dval s k (k / 2)).toNat < 16 := by
  have h := hv_lt s (2 * (k / 2))
  unfold dval
  rw [if_neg (by omega)]
  split
  · simp; omega
  · decide

theorem dpre_succ (s : Tx.Bytes) (k : Nat) (_hk : k < 64) : dpre s (k + 1) = (dpre s k).set (k / 2) (UInt8.ofNat (16 * (dval s k (k / 2)).toNat + hv s k)) := by
  apply List.ext_getElem?
  intro j
  by_cases hj : j < 32
  · rw [dpre_at _ _ _ hj, List.getElem?_set]
    by_cases e : k / 2 = j
    · subst e
      rw [if_pos rfl, if_pos (by rw [dpre_len]; omega)]
      congr 1
      have h1 := hv_lt s (2 * (k / 2))
      unfold dval
      rcases Nat.mod_two_eq_zero_or_one k with h | h
      · have e2 : 2 * (k / 2) = k := by omega
        rw [e2, if_neg (by omega), if_pos (by omega), if_neg (by omega), if_neg (by omega)]
        simp
      · have e2 : 2 * (k / 2) + 1 = k := by omega
        have e3 : 2 * (k / 2) < k := by omega
        have e4 : (UInt8.ofNat (hv s (2 * (k / 2)))).toNat = hv s (2 * (k / 2)) := by simp; omega
        rw [e2]
        simp only [Nat.lt_irrefl, if_false, Nat.lt_add_one, if_true, e3, e4]
    · rw [if_neg e, dpre_at _ _ _ hj]
      congr 1
      unfold dval
      have e1 : (2 * j + 1 < k + 1) ↔ (2 * j + 1 < k) := ⟨fun h => by omega, fun h => by omega⟩
      have e2 : (2 * j < k + 1) ↔ (2 * j < k) := ⟨fun h => by omega, fun h => by omega⟩
      simp only [e1, e2]
  · have h1 := dpre_len s (k + 1)
    have h2 := dpre_len s k
    rw [List.getElem?_eq_none (by omega), List.getElem?_eq_none (by simp; omega)]

theorem bits_nib : ∀ a b : Fin 16, bits BinOp.or IntKind.u8 ((a.val : Int) * 16) (b.val : Int) = (a.val : Int) * 16 + (b.val : Int) := by decide +kernel
theorem bits_nibs (a b : Nat) (ha : a < 16) (hb : b < 16) : bits BinOp.or IntKind.u8 ((a : Int) * 16) (b : Int) = ((UInt8.ofNat (16 * a + b)).toNat : Int) := by
  have h := bits_nib ⟨a, ha⟩ ⟨b, hb⟩
  simp only at h
  rw [h]
  have : (UInt8.ofNat (16 * a + b)).toNat = 16 * a + b := by simp; omega
  rw [this]; omega

theorem set_bv (l : Tx.Bytes) (i : Nat) (x : UInt8) : (l.map bv).toArray.setIfInBounds i (.int .u8 (x.toNat : Int)) = ((l.set i x).map bv).toArray := by
  simp [List.map_set, bv]

theorem pairs_of (s : Tx.Bytes) : ∀ (n : Nat), s.length = 2 * n → (∀ j, j < 2 * n → ∃ c v, s[j]? = some c ∧ Tx.hexVal c = some v) →
    Tx.dataPairs s = some ((List.range n).map fun j => UInt8.ofNat (16 * hv s (2 * j) + hv s (2 * j + 1))) := by
  intro n
  induction n generalizing s with
  | zero =>
    intro h _
    have : s = [] := List.eq_nil_of_length_eq_zero (by omega)
    subst this; rfl
  | succ n ih =>
    intro h hall
    match s, h with
    | a :: b :: r, h =>
      obtain ⟨c0, v0, hc0, hv0⟩ := hall 0 (by omega)
      obtain ⟨c1, v1, hc1, hv1⟩ := hall 1 (by omega)
      simp at hc0 hc1
      subst hc0; subst hc1
      have ih' := ih r (by simp at h; omega) (fun j hj => by
        obtain ⟨c, v, hc, hv'⟩ := hall (j + 2) (by omega)
        exact ⟨c, v, by simpa using hc, hv'⟩)
      simp only [Tx.dataPairs, hv0, hv1, ih']
      rw [List.range_succ_eq_map]
      simp only [List.map_cons, List.map_map, Option.some.injEq, List.cons.injEq]
      refine ⟨by simp [hv, hv0, hv1], List.map_congr_left fun j hj => ?_⟩
      have e1 : 2 * (j + 1) = 2 * j + 2 := by omega
      simp [hv, e1]

theorem data_of (s : Tx.Bytes) (h : s.length = 64) (hall : ∀ j, j < 64 → ∃ c v, s[j]? = some c ∧ Tx.hexVal c = some v) : Tx.dataF s = some (dpre s 64) := by
  have e : dpre s 64 = (List.range 32).map fun j => UInt8.ofNat (16 * hv s (2 * j) + hv s (2 * j + 1)) :=
    List.map_congr_left fun j hj => by
      have := List.mem_range.1 hj
      rw [if_pos (by omega)]
  rw [e]
  unfold Tx.dataF
  rw [if_pos h]
  exact pairs_of s 32 (by omega) hall

theorem pairs_none : ∀ (s : Tx.Bytes) (j : Nat) (c : UInt8), s[j]? = some c → Tx.hexVal c = none → Tx.dataPairs s = none
  | [], j, c, h, _ => by simp at h
  | [_], _, _, _, _ => rfl
  | a :: b :: r, 0, c, h, hc => by simp at h; subst h; simp [Tx.dataPairs, hc]
  | a :: b :: r, 1, c, h, hc => by
    simp at h; subst h
    unfold Tx.dataPairs
    rw [hc]
    cases Tx.hexVal a <;> rfl
  | a :: b :: r, j + 2, c, h, hc => by
    have ih := pairs_none r j c (by simpa using h) hc
    unfold Tx.dataPairs
    rw [ih]
    cases Tx.hexVal a <;> cases Tx.hexVal b <;> rfl

theorem data_none {s : Tx.Bytes} {j : Nat} {c : UInt8} (h : s[j]? = some c) (hc : Tx.hexVal c = none) : Tx.dataF s = none := by
  unfold Tx.dataF
  split
  · exact pairs_none s j c h hc
  · rfl

theorem hv_of {s : Tx.Bytes} {j : Nat} {c : UInt8} {v : Nat} (h : s[j]? = some c) (hc : Tx.hexVal c = some v) : hv s j = v := by simp [hv, h, hc]

theorem one_bv (l : Tx.Bytes) : ((l.map bv).toArray.all fun x => x.oneCell') = true := by
  simp [bv, Value.oneCell']

end Go.Proofs.YtjjlmhlfobmpgaaDoor
