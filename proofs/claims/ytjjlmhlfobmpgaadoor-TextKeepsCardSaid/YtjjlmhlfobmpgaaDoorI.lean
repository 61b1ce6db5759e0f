/-
Walks: text.line.
-/
import Derived.Test.YtjjlmhlfobmpgaaDoorH
namespace Go.Proofs.YtjjlmhlfobmpgaaDoor
open Go.RowKit

def stepCells (x : Tx.StepV) (kv : Value) : List Value := opCells x.op ++ [.int .i64 x.arm, .bool x.crash, kv, .int .u64 (x.soft : Int), .int .i64 x.tear]

/-- A slice of ints that reads as l. -/
def KeepR (w : World) (kv : Value) (l : List Int) : Prop :=
  ∃ a c, kv = .slice a l.length c ∧ (l ≠ [] → ∃ b o, a = some ⟨b, o, none⟩ ∧ ∀ j v, l[j]? = some v → w.cell? ⟨b, o + j, none⟩ = some (.int .i64 v))

structure StepOk2 (x : Tx.StepV) : Prop where
  op : OpOk x.op
  arm : I64 x.arm
  tear : I64 x.tear
  soft : x.soft < 18446744073709551616
  keep : ∀ v ∈ x.keep, I64 v
  few : x.keep.length ≤ 400

theorem KeepR.below {w w' : World} {kv : Value} {l : List Int} (h : KeepR w kv l) (hb : Below w.heap.size w w') : KeepR w' kv l := by
  obtain ⟨a, c, rfl, h⟩ := h
  refine ⟨a, c, rfl, fun hl => ?_⟩
  obtain ⟨b, o, rfl, h2⟩ := h hl
  refine ⟨b, o, rfl, fun j v hj => ?_⟩
  rw [hb.cell (p := ⟨b, o + j, none⟩) (World.block_lt_of_cell? _ _ (h2 j v hj))]
  exact h2 j v hj

theorem stepCells_at {x : Tx.StepV} {kv : Value} (h : x.op.data.length = 32) : (∀ (j : Nat) (v : Value), (opCells x.op)[j]? = some v → (stepCells x kv)[j]? = some v) ∧ (stepCells x kv)[37]? = some (.int .i64 x.arm) ∧ (stepCells x kv)[38]? = some (.bool x.crash) ∧
    (stepCells x kv)[39]? = some kv ∧ (stepCells x kv)[40]? = some (.int .u64 (x.soft : Int)) ∧ (stepCells x kv)[41]? = some (.int .i64 x.tear) := by
  have hl : (opCells x.op).length = 37 := by simp [opCells, h]
  refine ⟨fun j v hj => ?_, ?_, ?_, ?_, ?_, ?_⟩
  · unfold stepCells
    rw [List.getElem?_append_left (List.getElem?_eq_some_iff.1 hj).1]; exact hj
  all_goals simp [stepCells, hl]

theorem join_own (l : List Tx.Bytes) (v : Value) (base : Nat) (w : World) (hown : w.ownsRow base 9 1 v l.length (l.map str)) (hn : l.length ≤ 1000) (hlen : (Lib.join l [32]).length ≤ 1000000) :
    Calls Tryd.prog 39 #[v, .string ⟨#[32]⟩] w fun e w' => e = .returned (.string ⟨(Lib.join l [32]).toArray⟩) ∧ Below w.heap.size w w' := by
  cases l with
  | nil =>
    have hv : v = .slice none 0 0 ∨ ∃ g cap, v = .slice (some ⟨g, 0, none⟩) 0 cap := by
      rcases hown.2 with ⟨hv, _⟩ | ⟨g, cap, cur, hv, _⟩
      · exact .inl hv
      · exact .inr ⟨g, cap, hv⟩
    rcases hv with rfl | ⟨g, cap, rfl⟩
    · exact (Tryd.strings_Join_none _ _ _ w).mono fun e w' ⟨he, hw⟩ => ⟨he, hw ▸ Below.refl _ _⟩
    · exact (Tryd.strings_Join_none _ _ _ w).mono fun e w' ⟨he, hw⟩ => ⟨he, hw ▸ Below.refl _ _⟩
  | cons x r =>
    rcases hown.2 with ⟨_, hv⟩ | ⟨g, cap, cur, rfl, hb, hg, hnc, hm, hs, htake⟩
    · simp at hv
    · have hc := hown.cells rfl
      have e : ((x :: r).map fun l => (⟨l.toArray⟩ : ByteArray)).map (fun x => x.data.toList) = x :: r := by
        rw [List.map_map]
        conv => rhs; rw [← List.map_id (x :: r)]
        exact List.map_congr_left fun a _ => rfl
      have h := Tryd.strings_Join g 0 cap ((x :: r).map fun l => (⟨l.toArray⟩ : ByteArray)) ⟨#[32]⟩ w (fun j y hj => by
        have := hc j (.string y) (by
          simp only [List.getElem?_map] at hj ⊢
          cases hq : (x :: r)[j]? with
          | none => simp [hq] at hj
          | some z => simp [hq] at hj; simp [str, hj])
        rw [Lib.add_plain] at this
        exact this) (Array.getElem?_eq_some_iff.1 hg).1 (by simp at hn ⊢; omega) (by simpa using hnc) (by rw [e]; exact Nat.le_trans hlen (by omega))
      rw [e] at h
      simpa using h

theorem joinT_len (sep : Tx.Bytes) (N : Nat) : ∀ (l : List Tx.Bytes), (∀ w ∈ l, w.length ≤ N) → (Lib.joinTail sep l).length ≤ l.length * (N + sep.length)
  | [], _ => by simp [Lib.joinTail]
  | x :: r, h => by
    have ih := joinT_len sep N r (fun w hw => h w (List.mem_cons_of_mem _ hw))
    have hx := h x (by simp)
    simp only [Lib.joinTail, List.map_cons, List.flatten_cons, List.length_append] at ih ⊢
    rw [List.length_cons, Nat.add_mul]
    omega

theorem join_len (N : Nat) (l : List Tx.Bytes) (h : ∀ w ∈ l, w.length ≤ N) : (Lib.join l [32]).length ≤ l.length * (N + 1) := by
  cases l with
  | nil => simp [Lib.join_nil]
  | cons x r =>
    rw [Lib.join_cons]
    have := joinT_len [32] N r (fun w hw => h w (List.mem_cons_of_mem _ hw))
    have hx := h x (by simp)
    rw [List.length_append, List.length_cons, Nat.add_mul]
    simp only [List.length_singleton] at this
    omega

theorem dec_len (u : Nat) (h : u < 18446744073709551616) : (Lib.decDigits u).length ≤ 20 := by
  rw [Lib.decDigits_length]; exact Lib.nDigits_le20 u h

theorem fields_len {o : Tx.OpV} (ho : OpOk o) : (Tx.fieldsF o).length ≤ 4 ∧ ∀ w ∈ Tx.fieldsF o, w.length ≤ 64 := by
  unfold Tx.fieldsF
  cases h : Tx.words.find? (fun w => w.2.1 == o.kind && w.2.2.1 == o.sync) with
  | none => simp
  | some x =>
    have hm := List.mem_of_find?_eq_some h
    obtain ⟨k, hk⟩ := List.getElem?_of_mem hm
    have hl := words_len k x hk
    have hn : ∀ x ∈ Tx.words, x.1.length ≤ 64 := by decide
    refine ⟨by simp; omega, fun w hw => ?_⟩
    rcases List.mem_cons.1 hw with rfl | hw
    · exact hn x hm
    · obtain ⟨c, _, rfl⟩ := List.mem_map.1 hw
      unfold Tx.tellF
      split
      · exact Nat.le_trans (Lib.itoa_length_le _ ho.id.1 ho.id.2) (by omega)
      · split
        · exact Nat.le_trans (Lib.itoa_length_le _ ho.block.1 ho.block.2) (by omega)
        · split
          · exact Nat.le_trans (Lib.itoa_length_le _ ho.policy.1 ho.policy.2) (by omega)
          · rw [Tx.hexF_length, ho.data]; omega

theorem lineL_len {x : Tx.StepV} (hx : StepOk2 x) : (Tx.lineL x).length ≤ 403 ∧ ∀ w ∈ Tx.lineL x, w.length ≤ 64 := by
  unfold Tx.lineL
  split
  · refine ⟨by simp; exact hx.few, fun w hw => ?_⟩
    simp only [List.mem_cons, List.mem_map] at hw
    rcases hw with rfl | rfl | rfl | ⟨n, hn, rfl⟩
    · decide
    · exact Nat.le_trans (dec_len _ hx.soft) (by omega)
    · exact Nat.le_trans (Lib.itoa_length_le _ hx.tear.1 hx.tear.2) (by omega)
    · have := hx.keep n hn
      exact Nat.le_trans (Lib.itoa_length_le _ this.1 this.2) (by omega)
  · split
    · refine ⟨by simp, fun w hw => ?_⟩
      simp only [List.mem_cons, List.not_mem_nil, or_false] at hw
      rcases hw with rfl | rfl
      · decide
      · exact Nat.le_trans (Lib.itoa_length_le _ hx.arm.1 hx.arm.2) (by omega)
    · exact ⟨Nat.le_trans (fields_len hx.op).1 (by omega), (fields_len hx.op).2⟩

theorem line_len {x : Tx.StepV} (hx : StepOk2 x) : (Lib.join (Tx.lineL x) [32]).length ≤ 30000 := by
  have h := lineL_len hx
  refine Nat.le_trans (join_len 64 _ h.2) ?_
  have := Nat.mul_le_mul_right 65 h.1
  omega

end Go.Proofs.YtjjlmhlfobmpgaaDoor
