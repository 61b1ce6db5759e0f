/-
Walks: windrowlaw25.TextBack, TextPlains.
-/
import Derived.Test.YtjjlmhlfobmpgaaDoorX
namespace Go.Proofs.YtjjlmhlfobmpgaaDoor
open Go.RowKit

theorem line_len2 {x : Tx.StepV} (hx : StepOk2 x) : (Tx.lineF x).length ≤ (x.keep.length + 4) * 65 + 1 := by
  have h := (lineL_len hx).2
  have h2 : (Tx.lineL x).length ≤ x.keep.length + 4 := by
    unfold Tx.lineL
    split
    · simp
    · split
      · simp
      · exact Nat.le_trans (fields_len hx.op).1 (by omega)
  have h3 := join_len 64 _ h
  have h4 := Nat.mul_le_mul_right 65 h2
  rw [Tx.lineF_eq]
  simp only [List.length_append, List.length_singleton]
  omega

theorem print_len2 : ∀ {l : List Tx.StepV}, (∀ x ∈ l, StepOk2 x) → (printF l).length ≤ (keepsN l + 4 * l.length) * 65 + l.length
  | [], _ => by simp [printF]
  | x :: r, h => by
    have h1 := line_len2 (h x (by simp))
    have h2 := print_len2 (l := r) (fun y hy => h y (List.mem_cons_of_mem _ hy))
    simp only [printF, keepsN, List.flatMap_cons, List.length_append, List.length_cons, List.map_cons, List.sum_cons] at h2 ⊢
    omega

theorem few_len {l : List Tx.StepV} (h : fewF l = true) (ho : ∀ x ∈ l, StepOk2 x) : (printF l).length ≤ 200000 := by
  have h1 : l.length + keepsN l ≤ 400 := by simpa [fewF] using h
  have := print_len2 ho
  omega

set_option maxHeartbeats 4000000 in
set_option maxRecDepth 100000 in
/-- TextBack. -/
theorem back_walk (v : Value) (l : List Tx.StepV) (w : World) (hv : StepsR w v l) (hl : l.length * 128 ≤ reachBytes) (hw : ∀ x ∈ l, StepWf x) (L : Ld w) :
    Calls Tryd.prog 7 #[v] w (LawP w) := by
  have HV := Lib.hid hv
  have HL := Lib.hid hl
  have HW := Lib.hid hw
  clear hl hw
  go_enter Tryd.func7, Tryd.ntmps7
  go_wp2_with fail
  go_at_call 10
  refine (awake_any w L).mono ?_
  rintro e w1 ⟨rfl, hb1⟩
  have L1 := L.below hb1
  have HB1 := Lib.hid hb1
  have HV1 := Lib.hid (HV.out.below hb1)
  clear hb1
  go_wp2_with fail
  go_at_call 15
  refine (few_in v l w1 HV1.out HL.out HW.out).mono ?_
  rintro e w2 ⟨rfl, rfl⟩
  cases hf : fewF l with
  | false =>
    go_wp2_with fail
    go_at_call 10
    refine (awake_any w1 L1).mono ?_
    rintro e w2 ⟨rfl, hb2⟩
    go_wp2
    go_ret
    exact ⟨rfl, HB1.out.trans (hb2.mono HB1.out.size)⟩
  | true =>
    obtain ⟨hl4, ho⟩ := few_ok HW.out hf
    have HO := Lib.hid ho
    have HPL := Lib.hid (few_len hf ho)
    clear ho hf
    obtain ⟨a, c, rfl, -⟩ := hv
    go_wp2
    go_loopw [3] (fun i wr => ∃ k : Nat, k ≤ l.length ∧ i = .int .i64 k ∧ (∀ x ∈ l.take k, Tx.plainF x = true) ∧ Below w.heap.size w wr) (fun i _ => l.length - (intOf i).toNat)
    case atStart => exact ⟨0, Nat.zero_le _, rfl, by simp, HB1.out⟩
    case round =>
      obtain ⟨k, hk, rfl, hpl, hb⟩ := hrel
      have HPP := Lib.hid hpl
      have HB := Lib.hid hb
      clear hpl
      by_cases hlt : k < l.length
      · obtain ⟨x, hx⟩ : ∃ x, l[k]? = some x := ⟨_, List.getElem?_eq_getElem hlt⟩
        have hxl := List.mem_of_getElem? hx
        obtain ⟨a', c', hac, hh⟩ := HV.out
        obtain ⟨b, o, ha, hcells⟩ := hh (by intro e; rw [e] at hlt; simp at hlt)
        injection hac with hac1 hac2 hac3
        subst hac1
        subst ha
        obtain ⟨kv, hr, hkv⟩ := hcells k x hx
        have HR := Lib.hid (rangeAt_below hr hb)
        have HK := Lib.hid (hkv.below hb)
        have HX := Lib.hid (HO.out x hxl)
        have HXI := Lib.hid hx
        have HSZ := Lib.hid (stepCells_len (kv := kv) HX.out.op.data)
        have hlt2 : (k : Int) < (l.length : Int) := by omega
        have LX := L.below hb
        clear hr hkv hb hx hcells hh hac2 hac3
        go_wp2_with ((with_reducible show wpList _ _ _ ({ dst := _, op := Op.load 41 _, type := _, pos := _, after := _, guard := _ } :: _) _ _); refine wpList_load_mid rfl 41 _ rfl b (o + k * 42) rfl (stepCells x kv) _ HR.out Tryd.underlying41 rfl (info41.trans (congrArg some (HSZ.out.symm.trans (by simp)))) ?_)
        refine (plain_any x kv _ HX.out LX HK.out).mono ?_
        rintro e w2 ⟨rfl, hb2⟩
        have HB2 := Lib.hid (HB.out.trans (hb2.mono HB.out.size))
        clear hb2
        cases hp : Tx.plainF x with
        | false =>
          go_wp2
          go_ret
          exact ⟨rfl, HB2.out⟩
        | true =>
          have HP := Lib.hid hp
          clear hp
          go_wp2
          go_roundw
          case rel =>
            refine ⟨k + 1, by omega, by go_num, fun y hy => ?_, HB2.out⟩
            rw [List.take_add_one, HXI.out] at hy
            rcases List.mem_append.1 hy with hy | hy
            · exact HPP.out y hy
            · simp at hy; rw [hy]; exact HP.out
          case measure => simp [intOf]; omega
      · have hke : k = l.length := by omega
        have hall : ∀ x ∈ l, Tx.PlainS x := fun x hx => Tx.plainS_of_plain (stepOk (HO.out x hx)) (HPP.out x (by rw [hke, List.take_length]; exact hx))
        have HALL := Lib.hid hall
        have hlt2 : ¬ (k : Int) < (l.length : Int) := by omega
        have LX := L.below hb
        have HVX := Lib.hid (HV.out.below hb)
        clear hke hall hb
        go_wp2_with fail
        go_at_call 18
        refine (print_any _ l wr HVX.out (by omega) HO.out LX).mono ?_
        rintro e w2 ⟨rfl, hb2⟩
        have HB2 := Lib.hid (HB.out.trans (hb2.mono HB.out.size))
        have L2 := LX.below hb2
        have HV2 := Lib.hid (HVX.out.below hb2)
        clear hb2
        go_wp2_with fail
        go_at_call 11
        refine (parse_any (printF l) w2 (by have := HPL.out; omega) L2).mono ?_
        intro e w3 hP
        have hpp : parseA (printF l) = .ok l := Tx.parse_print HALL.out
        rw [hpp] at hP
        obtain ⟨hb3, v3, ps, rfl, hps, hout⟩ := hP
        have HB3 := Lib.hid (HB2.out.trans (hb3.mono HB2.out.size))
        have hs3 := hout.stepsR
        rw [hps] at hs3
        have HS3 := Lib.hid hs3
        have HV3 := Lib.hid (HV2.out.below hb3)
        clear hb3 hout hs3 hpp
        go_wp2_with fail
        go_at_call 14
        refine (rsame_yes _ _ l w3 HV3.out HS3.out (by omega) (fun x hx => (HO.out x hx).op.data) (fun x hx => by have := (HO.out x hx).few; omega)).mono ?_
        rintro e w4 ⟨rfl, hb4⟩
        go_wp2
        go_ret
        exact ⟨rfl, HB3.out.trans (hb4.mono HB3.out.size)⟩

end Go.Proofs.YtjjlmhlfobmpgaaDoor
