/-
The laws' arguments opened: a step, a slice of steps.
-/
import Derived.Test.YtjjlmhlfobmpgaaDoorV7
import Derived.ProofKit
import Derived.OpenShut
import Derived.ShutString
import Derived.ChangeOld
import Derived.Below
import Derived.SizedLaws
namespace Go.Proofs.YtjjlmhlfobmpgaaDoor
open Go.RowKit Go.ChangeShapes Go.WideShapes Go.ChangeAt

/-- A step as it comes in. -/
structure StepWf (x : Tx.StepV) : Prop where
  op : OpOk x.op
  arm : I64 x.arm
  tear : I64 x.tear
  soft : x.soft < 18446744073709551616
  keep : ∀ v ∈ x.keep, I64 v
  len : x.keep.length * 8 ≤ reachBytes

theorem under41 : Tryd.prog.underlying 41 = some (.struct (Tryd.prog.fieldsOf 41)) := by kernel_rfl
theorem under39 : Tryd.prog.underlying 39 = some (.struct (Tryd.prog.fieldsOf 39)) := by kernel_rfl
theorem flds41 : (Tryd.prog.fieldsOf 41).toList.map (fun f => (f.type, f.offset)) = [(35, 0), (3, 37), (4, 38), (39, 39)] := by kernel_rfl
theorem flds39 : (Tryd.prog.fieldsOf 39).toList.map (fun f => (f.type, f.offset)) = [(36, 0), (37, 1), (3, 2)] := by kernel_rfl
theorem flds35 : (Tryd.prog.fieldsOf 35).toList.map (fun f => (f.type, f.offset)) = [(3, 0), (3, 1), (3, 2), (33, 3), (4, 35), (3, 36)] := by kernel_rfl
theorem under33 : Tryd.prog.underlying 33 = some (.array 32 5) := by kernel_rfl
theorem cs3 : Tryd.prog.cellsOf 3 = 1 := by kernel_rfl
theorem cs4 : Tryd.prog.cellsOf 4 = 1 := by kernel_rfl
theorem cs5 : Tryd.prog.cellsOf 5 = 1 := by kernel_rfl
theorem cs36 : Tryd.prog.cellsOf 36 = 1 := by kernel_rfl
theorem cs37 : Tryd.prog.cellsOf 37 = 1 := by kernel_rfl
theorem cs33 : Tryd.prog.cellsOf 33 = 32 := by kernel_rfl
theorem cs35 : Tryd.prog.cellsOf 35 = 37 := by kernel_rfl
theorem cs39 : Tryd.prog.cellsOf 39 = 3 := by kernel_rfl
theorem cs41 : Tryd.prog.cellsOf 41 = 42 := by kernel_rfl

/-- A slice that came in: nil, or one with an address. -/
def SlN (v : Value) : Prop := v = .slice none 0 0 ∨ ∃ ad n c, v = .slice (some ad) n c
/-- Steps that came in, and their lists. -/
def StepsN (w : World) (v : Value) (l : List Tx.StepV) : Prop :=
  SlN v ∧ ∀ (k : Nat) (x : Tx.StepV), l[k]? = some x → ∃ b o c kv, v = .slice (some ⟨b, o, none⟩) l.length c ∧ w.rangeAt b (o + k * 42) (stepCells x kv) ∧ KeepR w kv x.keep ∧ SlN kv

/-- No slice that is read is too great. -/
def Sz {H : Type} (d : DataW H) (t : TypeId) : Prop := ∀ n ∈ d.weights Tryd.prog t, n ≤ reachBytes

theorem weights_mem_all {H : Type} {P : Program} {e : TypeId} : ∀ {ds : List (DataW H)} {j : Nat} {d : DataW H}, ds[j]? = some d → ∀ n ∈ d.weights P e, n ∈ DataW.weightsAll P e ds
  | d0 :: ds, 0, d, hd, n, hn => by
    simp only [List.getElem?_cons_zero, Option.some.injEq] at hd
    subst hd
    simp only [DataW.weightsAll, List.mem_append]
    exact Or.inl hn
  | d0 :: ds, j + 1, d, hd, n, hn => by
    simp only [List.getElem?_cons_succ] at hd
    simp only [DataW.weightsAll, List.mem_append]
    exact Or.inr (weights_mem_all hd n hn)
  | [], _, _, hd, _, _ => by simp at hd

theorem bytes3 : Tryd.prog.bytesOf 3 = 8 := by kernel_rfl
theorem bytes41 : Tryd.prog.bytesOf 41 = 128 := by kernel_rfl

section
variable {H : Type} {enc : TypeId × Value → H} {W : World} {base : Nat} {sp : Nat → Bool} {held : Bool}

theorem struct_flds {t : TypeId} {fs : Array Field} {l : List (TypeId × Nat)} {fuel : Nat} {cs : List Value} {x : DataW H × List MemPlace} (ht : Tryd.prog.underlying t = some (.struct fs)) (hl : fs.toList.map (fun f => (f.type, f.offset)) = l)
    (h : DataW.trod enc Tryd.prog W base sp held fuel t cs = some x) (hz : Sz x.1 t) : cs.length = Tryd.prog.cellsOf t ∧ ∃ n, ∀ (i : Nat) (ty : TypeId) (off : Nat), l[i]? = some (ty, off) → ∃ y, DataW.trod enc Tryd.prog W base sp held n ty ((cs.drop off).take (Tryd.prog.cellsOf ty)) = some y ∧ Sz y.1 ty := by
  obtain ⟨xs, n, _, hx, hlen, hxl, hf⟩ := DataW.trod_struct ht h
  refine ⟨hlen, n, fun i ty off hi => ?_⟩
  rw [← hl, List.getElem?_map] at hi
  cases hfi : fs.toList[i]? with
  | none => simp [hfi] at hi
  | some f =>
    simp only [hfi, Option.map_some, Option.some.injEq, Prod.mk.injEq] at hi
    obtain ⟨rfl, rfl⟩ := hi
    have hfi' : fs[i]? = some f := by simpa using hfi
    have h1 := hf i f hfi'
    have hlt : i < xs.length := by
      rw [hxl]
      exact (Array.getElem?_eq_some_iff.1 hfi').1
    rw [List.getElem?_eq_getElem hlt] at h1
    refine ⟨_, h1, fun n hn => hz n ?_⟩
    rw [hx]
    simp only [DataW.weights, ht]
    refine DataW.weights_mem_each (j := i) (t := f.type) ?_ ?_ n hn
    · rw [List.getElem?_map, hfi]; rfl
    · rw [List.getElem?_map, List.getElem?_eq_getElem hlt]; rfl

theorem at_one {cs : List Value} {i : Nat} {v : Value} (h : (cs.drop i).take 1 = [v]) : cs[i]? = some v := by
  have h1 : ((cs.drop i).take 1)[0]? = some v := by rw [h]; rfl
  rw [List.getElem?_take_of_lt (by omega), List.getElem?_drop] at h1
  simpa using h1

theorem fld_int {t : TypeId} {k : IntKind} {n : Nat} {cs : List Value} {i : Nat} (ht : Tryd.prog.underlying t = some (.int k)) (hc : Tryd.prog.cellsOf t = 1) (h : ∃ y, DataW.trod enc Tryd.prog W base sp held n t ((cs.drop i).take (Tryd.prog.cellsOf t)) = some y ∧ Sz y.1 t) :
    ∃ m, cs[i]? = some (.int k m) ∧ (Lit.int k m).wf = true := by
  obtain ⟨y, hy, _⟩ := h
  obtain ⟨m, e1, _, e2⟩ := DataW.trod_int ht hy
  rw [hc] at e1
  exact ⟨m, at_one e1, e2⟩

theorem fld_bool {t : TypeId} {n : Nat} {cs : List Value} {i : Nat} (ht : Tryd.prog.underlying t = some .bool) (hc : Tryd.prog.cellsOf t = 1) (h : ∃ y, DataW.trod enc Tryd.prog W base sp held n t ((cs.drop i).take (Tryd.prog.cellsOf t)) = some y ∧ Sz y.1 t) :
    ∃ m, cs[i]? = some (.bool m) := by
  obtain ⟨y, hy, _⟩ := h
  obtain ⟨m, e1, _⟩ := DataW.trod_bool ht hy
  rw [hc] at e1
  exact ⟨m, at_one e1⟩

theorem bytes_of : ∀ (cs : List Value), (∀ v ∈ cs, ∃ n : Int, v = .int .u8 n ∧ 0 ≤ n ∧ n < 256) → ∃ d : List UInt8, cs = d.map bv
  | [], _ => ⟨[], rfl⟩
  | v :: r, h => by
    obtain ⟨n, rfl, h0, h1⟩ := h v (by simp)
    obtain ⟨d, rfl⟩ := bytes_of r (fun u hu => h u (List.mem_cons_of_mem _ hu))
    refine ⟨UInt8.ofNat n.toNat :: d, ?_⟩
    have : ((UInt8.ofNat n.toNat).toNat : Int) = n := by rw [M.byte_toNat _ (by omega)]; omega
    rw [List.map_cons]
    congr 1
    unfold bv
    rw [this]

theorem i64_of {m : Int} (h : (Lit.int .i64 m).wf = true) : I64 m := by
  have e1 : IntKind.min .i64 = -9223372036854775808 := by decide
  have e2 : IntKind.max .i64 = 9223372036854775807 := by decide
  simp only [Lit.wf, Bool.and_eq_true, decide_eq_true_eq, e1, e2] at h
  exact h

theorem u8_of {m : Int} (h : (Lit.int .u8 m).wf = true) : 0 ≤ m ∧ m < 256 := by
  have e1 : IntKind.min .u8 = 0 := by decide
  have e2 : IntKind.max .u8 = 255 := by decide
  simp only [Lit.wf, Bool.and_eq_true, decide_eq_true_eq, e1, e2] at h
  omega

theorem u64_of {m : Int} (h : (Lit.int .u64 m).wf = true) : 0 ≤ m ∧ m < 18446744073709551616 := by
  have e1 : IntKind.min .u64 = 0 := by decide
  have e2 : IntKind.max .u64 = 18446744073709551615 := by decide
  simp only [Lit.wf, Bool.and_eq_true, decide_eq_true_eq, e1, e2] at h
  omega

theorem open_op {n : Nat} {cs : List Value} (h : ∃ y, DataW.trod enc Tryd.prog W base sp held n 35 cs = some y ∧ Sz y.1 35) : ∃ o : Tx.OpV, cs = opCells o ∧ OpOk o := by
  obtain ⟨y, hy, hsz⟩ := h
  obtain ⟨hlen, m, hf⟩ := struct_flds under35 flds35 hy hsz
  rw [cs35] at hlen
  obtain ⟨k, e0, w0⟩ := fld_int Tryd.underlying3 cs3 (hf 0 3 0 rfl)
  obtain ⟨id, e1, w1⟩ := fld_int Tryd.underlying3 cs3 (hf 1 3 1 rfl)
  obtain ⟨bl, e2, w2⟩ := fld_int Tryd.underlying3 cs3 (hf 2 3 2 rfl)
  obtain ⟨sy, e4⟩ := fld_bool Tryd.underlying4 cs4 (hf 4 4 35 rfl)
  obtain ⟨po, e5, w5⟩ := fld_int Tryd.underlying3 cs3 (hf 5 3 36 rfl)
  obtain ⟨z, hz, hzz⟩ := hf 3 33 3 rfl
  obtain ⟨xs, q, _, hze, hl3, hx3, hel⟩ := DataW.trod_array under33 hz
  rw [cs33] at hl3 hel
  obtain ⟨d, hd⟩ := bytes_of ((cs.drop 3).take 32) (fun v hv => by
    obtain ⟨i, hi⟩ := List.getElem?_of_mem hv
    have hlt : i < 32 := by rw [← hl3]; exact (List.getElem?_eq_some_iff.1 hi).1
    have h1 := hel i hlt
    rw [List.getElem?_eq_getElem (by omega)] at h1
    have h2 := fld_int (i := i * Tryd.prog.cellsOf 5) Tryd.underlying5 cs5 ⟨_, h1, fun n hn => hzz n (by
      rw [hze]; simp only [DataW.weights, under33]; exact weights_mem_all (j := i) (by rw [List.getElem?_map, List.getElem?_eq_getElem (by omega)]; rfl) n hn)⟩
    obtain ⟨m, e, w⟩ := h2
    rw [cs5, Nat.mul_one, hi] at e
    exact ⟨m, Option.some.inj e, u8_of w⟩)
  have hdl : d.length = 32 := by
    have := congrArg List.length hd
    rw [hl3] at this
    simpa using this.symm
  refine ⟨⟨k, id, bl, d, sy, po⟩, ?_, ⟨i64_of w0, i64_of w1, i64_of w2, i64_of w5, hdl⟩⟩
  obtain ⟨a0, a1, a2, a3, a4, a5⟩ := opCells_at (o := ⟨k, id, bl, d, sy, po⟩) hdl
  apply List.ext_getElem?
  intro j
  by_cases h37 : 37 ≤ j
  · rw [List.getElem?_eq_none (by omega), List.getElem?_eq_none (by rw [opCells_len hdl]; omega)]
  · by_cases h3 : j < 3
    · have hj : j = 0 ∨ j = 1 ∨ j = 2 := by omega
      rcases hj with rfl | rfl | rfl
      · rw [e0]; exact a0.symm
      · rw [e1]; exact a1.symm
      · rw [e2]; exact a2.symm
    · by_cases h35 : j < 35
      · obtain ⟨i, rfl⟩ : ∃ i, j = 3 + i := ⟨j - 3, by omega⟩
        have h1 : ((cs.drop 3).take 32)[i]? = cs[3 + i]? := by rw [List.getElem?_take_of_lt (by omega), List.getElem?_drop]
        rw [← h1, hd]
        have hv : (d.map bv)[i]? = some ((d.map bv)[i]'(by simp; omega)) := List.getElem?_eq_getElem _
        rw [hv]
        exact (a5 i _ hv).symm
      · have hj : j = 35 ∨ j = 36 := by omega
        rcases hj with rfl | rfl
        · rw [e4]; exact a3.symm
        · rw [e5]; exact a4.symm

theorem open_step {n : Nat} {cs : List Value} (h : ∃ y, DataW.trod enc Tryd.prog W base (fun _ => true) held n 41 cs = some y ∧ Sz y.1 41) : ∃ x kv, cs = stepCells x kv ∧ KeepR W kv x.keep ∧ StepWf x ∧ SlN kv := by
  obtain ⟨y, hy, hsz⟩ := h
  obtain ⟨hlen, m, hf⟩ := struct_flds under41 flds41 hy hsz
  rw [cs41] at hlen
  have h0 := hf 0 35 0 rfl
  rw [cs35] at h0
  obtain ⟨o, ho, hok⟩ := open_op h0
  obtain ⟨ar, e1, w1⟩ := fld_int Tryd.underlying3 cs3 (hf 1 3 37 rfl)
  obtain ⟨cr, e2⟩ := fld_bool Tryd.underlying4 cs4 (hf 2 4 38 rfl)
  obtain ⟨z, hz, hzz⟩ := hf 3 39 39 rfl
  rw [cs39] at hz
  obtain ⟨hl3, m2, hf2⟩ := struct_flds under39 flds39 hz hzz
  rw [cs39] at hl3
  obtain ⟨so, e4, w4⟩ := fld_int Tryd.underlying37 cs37 (hf2 1 37 1 rfl)
  obtain ⟨te, e5, w5⟩ := fld_int Tryd.underlying3 cs3 (hf2 2 3 2 rfl)
  obtain ⟨u, hu, huz⟩ := hf2 0 36 0 rfl
  rw [cs36] at hu
  have hat : ∀ i, i < 3 → ((cs.drop 39).take 3)[i]? = cs[39 + i]? := fun i hi => by rw [List.getElem?_take_of_lt hi, List.getElem?_drop]
  have hso : 0 ≤ so ∧ so < 18446744073709551616 := u64_of w4
  have main : ∃ (kv : Value) (kl : List Int), cs[39]? = some kv ∧ KeepR W kv kl ∧ (∀ v ∈ kl, I64 v) ∧ kl.length * 8 ≤ reachBytes ∧ SlN kv := by
    rcases open_ints Tryd.underlying36 Tryd.underlying3 cs3 hu with ⟨e, _⟩ | ⟨a, len, cap, zs, e, _, hlc, hcm, hzl, hux, hcell, hw⟩
    · have := at_one (i := 0) e
      rw [hat 0 (by omega)] at this
      exact ⟨_, [], this, ⟨none, 0, rfl, fun h => absurd rfl h⟩, by simp, by simp, .inl rfl⟩
    · have := at_one (i := 0) e
      rw [hat 0 (by omega)] at this
      simp only [if_true] at hzl
      refine ⟨_, zs.take len, this, ⟨some a, cap, by simp [hzl, Nat.min_eq_left hlc], fun hne => ?_⟩, fun v hv => i64_of (hw v (List.mem_of_mem_take hv)), ?_, .inr ⟨_, _, _, rfl⟩⟩
      rotate_left
      · rw [hux] at huz
        have := huz _ (by simp only [DataW.weights, Tryd.underlying36]; exact List.mem_cons_self)
        rw [bytes3] at this
        simp [lits] at this ⊢
        omega
      have hlp : 0 < len := by
        rcases Nat.eq_zero_or_pos len with h | h
        · rw [h] at hne; simp at hne
        · exact h
      have h0 := hcell 0 (by omega)
      obtain ⟨b, o, spot⟩ := a
      have hs : spot = none := by
        cases spot with
        | none => rfl
        | some s =>
          exfalso
          unfold World.cell? at h0
          simp only [Addr.add] at h0
          split at h0 <;> simp at h0
      subst hs
      refine ⟨b, o, rfl, fun j v hj => ?_⟩
      have hjl : j < len := by have := (List.getElem?_eq_some_iff.1 hj).1; simp at this; omega
      rw [List.getElem?_take_of_lt hjl] at hj
      have := hcell j (by omega)
      rw [Lib.add_plain] at this
      rw [this, List.getD_eq_getElem?_getD, hj]
      rfl
  obtain ⟨kv, kl, e3, hkr, hkw, hkl, hkn⟩ := main
  rw [hat 1 (by omega)] at e4
  rw [hat 2 (by omega)] at e5
  refine ⟨⟨o, ar, cr, kl, so.toNat, te⟩, kv, ?_, hkr, ⟨hok, i64_of w1, i64_of w5, by show so.toNat < _; omega, hkw, hkl⟩, hkn⟩
  have hod := opCells_len hok.data
  have hs : (so.toNat : Int) = so := by omega
  have hd : cs.drop 37 = [.int .i64 ar, .bool cr, kv, .int .u64 so, .int .i64 te] := by
    apply List.ext_getElem?
    intro j
    rw [List.getElem?_drop]
    by_cases h5 : 5 ≤ j
    · rw [List.getElem?_eq_none (by omega), List.getElem?_eq_none (by simpa using h5)]
    · have hj : j = 0 ∨ j = 1 ∨ j = 2 ∨ j = 3 ∨ j = 4 := by omega
      rcases hj with rfl | rfl | rfl | rfl | rfl
      · exact e1
      · exact e2
      · exact e3
      · exact e4
      · exact e5
  have h1 : cs = cs.take 37 ++ cs.drop 37 := (List.take_append_drop 37 cs).symm
  rw [h1, hd]
  simp only [List.drop_zero] at ho
  rw [ho]
  simp [stepCells, hs]

theorem list_of {α : Type} {P : Nat → α → Prop} : ∀ n : Nat, (∀ i, i < n → ∃ x, P i x) → ∃ l : List α, l.length = n ∧ ∀ i x, l[i]? = some x → P i x
  | 0, _ => ⟨[], rfl, by simp⟩
  | n + 1, h => by
    obtain ⟨l, h1, h2⟩ := list_of n (fun i hi => h i (by omega))
    obtain ⟨x, hx⟩ := h n (by omega)
    refine ⟨l ++ [x], by simp [h1], fun i y hy => ?_⟩
    by_cases hi : i < n
    · rw [List.getElem?_append_left (by omega)] at hy
      exact h2 i y hy
    · rw [List.getElem?_append_right (by omega)] at hy
      have : i - l.length = 0 := by
        have := (List.getElem?_eq_some_iff.1 hy).1
        simp at this
        omega
      rw [this] at hy
      simp at hy
      subst hy
      have : i = n := by omega
      rw [this]; exact hx

theorem open_steps {v : Value} {d : DataW H} {p : List MemPlace} (hv : ∃ a len cap, v = .slice a len cap) (h : DataW.Trod enc Tryd.prog W base (fun _ => true) held 23 v d p) (hz : Sz d 23) : ∃ l : List Tx.StepV, StepsR W v l ∧ (∀ x ∈ l, StepWf x) ∧ l.length * 128 ≤ reachBytes ∧ StepsN W v l := by
  obtain ⟨a0, len0, cap0, rfl⟩ := hv
  obtain ⟨fuel, hf⟩ := h
  rcases DataW.trod_slice Tryd.underlying23 hf with ⟨e, _⟩ | ⟨a, len, cap, elems, rest, n, _, e, hdx, hb, hlc, hcm, hlen, hel, _, _⟩
  · simp [Value.cells] at e
    obtain ⟨rfl, rfl, rfl⟩ := e
    exact ⟨[], ⟨none, 0, rfl, fun h => absurd rfl h⟩, by simp, by simp, .inl rfl, by simp⟩
  · simp [Value.cells] at e
    obtain ⟨rfl, rfl, rfl⟩ := e
    have each : ∀ i, i < len0 → ∃ x : Tx.StepV, (∃ kv, (∀ j v, (stepCells x kv)[j]? = some v → W.cell? ((a.add (i * 42)).add j) = some v) ∧ KeepR W kv x.keep ∧ SlN kv) ∧ StepWf x := fun i hi => by
      have h1 := hel i hi
      rw [cs41, List.getElem?_eq_getElem (by omega), Option.bind_eq_some_iff] at h1
      obtain ⟨cs, h2, h3⟩ := h1
      injection hdx with hdx1 hdx2
      subst hdx1
      obtain ⟨x, kv, rfl, hk, hw, hn⟩ := open_step ⟨_, h3, fun n hn => hz n (by
        simp only [DataW.weights, Tryd.underlying23]
        refine List.mem_cons_of_mem _ (List.mem_append_left _ (weights_mem_all (j := i) ?_ n hn))
        rw [List.getElem?_map, List.getElem?_eq_getElem (by omega)]; rfl)⟩
      obtain ⟨_, hcl, hcell⟩ := World.cells?_some h2
      refine ⟨x, ⟨kv, fun j v hj => ?_, hk, hn⟩, hw⟩
      have hj42 : j < 42 := by rw [← hcl]; exact (List.getElem?_eq_some_iff.1 hj).1
      rw [hcell j hj42]; exact hj
    obtain ⟨l, hl, hP⟩ := list_of len0 each
    have hspot : l ≠ [] → ∃ b o, a = ⟨b, o, none⟩ := fun hne => by
      have hlp : 0 < l.length := List.length_pos_iff.2 hne
      obtain ⟨⟨kv, hc, _⟩, hw⟩ := hP 0 l[0] (List.getElem?_eq_getElem hlp)
      have h0 := hc 0 _ (show (stepCells l[0] kv)[0]? = some _ from rfl)
      obtain ⟨b, o, spot⟩ := a
      cases spot with
      | none => exact ⟨b, o, rfl⟩
      | some s =>
        exfalso
        unfold World.cell? at h0
        simp only [Addr.add] at h0
        split at h0 <;> simp at h0
    have hat : ∀ b o, a = ⟨b, o, none⟩ → ∀ (k : Nat) (x : Tx.StepV), l[k]? = some x → ∃ kv, W.rangeAt b (o + k * 42) (stepCells x kv) ∧ KeepR W kv x.keep ∧ SlN kv := fun b o ha k x hx => by
      obtain ⟨⟨kv, hc, hk, hn⟩, hw⟩ := hP k x hx
      refine ⟨kv, fun j v hj => ?_, hk, hn⟩
      have := hc j v hj
      rw [ha, Lib.add_plain, Lib.add_plain] at this
      exact this
    refine ⟨l, ⟨some a, cap0, by rw [hl], fun hne => ?_⟩, fun x hx => ?_, ?_, .inr ⟨_, _, _, rfl⟩, fun k x hx => ?_⟩
    · obtain ⟨b, o, ha⟩ := hspot hne
      refine ⟨b, o, by rw [ha], fun k x hx => ?_⟩
      obtain ⟨kv, h1, h2, _⟩ := hat b o ha k x hx
      exact ⟨kv, h1, h2⟩
    · obtain ⟨i, hi⟩ := List.getElem?_of_mem hx
      exact (hP i x hi).2
    · injection hdx with hdx1 hdx2
      subst hdx1
      have := hz _ (by simp only [DataW.weights, Tryd.underlying23]; exact List.mem_cons_self)
      rw [bytes41] at this
      simp at this
      omega
    · obtain ⟨b, o, ha⟩ := hspot (by intro e; rw [e] at hx; simp at hx)
      obtain ⟨kv, h1, h2, h3⟩ := hat b o ha k x hx
      exact ⟨b, o, cap0, kv, by rw [ha, hl], h1, h2, h3⟩

end

end Go.Proofs.YtjjlmhlfobmpgaaDoor
