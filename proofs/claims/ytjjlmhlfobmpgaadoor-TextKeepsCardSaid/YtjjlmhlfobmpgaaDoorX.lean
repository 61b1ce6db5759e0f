/-
Walks: windrowlaw25.TextPrints, TextBack, TextPlains.
-/
import Derived.Test.YtjjlmhlfobmpgaaDoorW
import Derived.Test.YtjjlmhlfobmpgaaDoorO
namespace Go.Proofs.YtjjlmhlfobmpgaaDoor
open Go.RowKit

theorem reach_val : reachBytes = 140737488351232 := rfl

theorem keep_le_keepsN : ∀ {l : List Tx.StepV} {x : Tx.StepV}, x ∈ l → x.keep.length ≤ keepsN l
  | y :: r, x, h => by
    unfold keepsN
    rw [List.map_cons, List.sum_cons]
    rcases List.mem_cons.1 h with rfl | h
    · omega
    · have := keep_le_keepsN h
      unfold keepsN at this
      omega

theorem few_ok {l : List Tx.StepV} (hw : ∀ x ∈ l, StepWf x) (h : fewF l = true) : l.length ≤ 400 ∧ ∀ x ∈ l, StepOk2 x := by
  have h1 : l.length + keepsN l ≤ 400 := by simpa [fewF] using h
  refine ⟨by omega, fun x hx => ?_⟩
  have h2 := keep_le_keepsN hx
  have h3 := hw x hx
  exact ⟨h3.op, h3.arm, h3.tear, h3.soft, h3.keep, by omega⟩

/-- Few, of whatever comes in. -/
theorem few_in (v : Value) (l : List Tx.StepV) (w : World) (hv : StepsR w v l) (hl : l.length * 128 ≤ reachBytes) (hw : ∀ x ∈ l, StepWf x) :
    Calls Tryd.prog 15 #[v] w fun e w' => e = .returned (.bool (fewF l)) ∧ w = w' := by
  rw [reach_val] at hl
  refine few_any v l w hv (by omega) (fun x hx => ?_) (fun x hx => (hw x hx).op.data)
  have := (hw x hx).len
  rw [reach_val] at this
  omega

def LawP (w : World) (e : Ending) (w' : World) : Prop := e = .returned (.bool true) ∧ Below w.heap.size w w'

set_option maxHeartbeats 4000000 in
set_option maxRecDepth 100000 in
/-- TextPrints. -/
theorem prints_walk (v : Value) (l : List Tx.StepV) (w : World) (hv : StepsR w v l) (hl : l.length * 128 ≤ reachBytes) (hw : ∀ x ∈ l, StepWf x) (L : Ld w) :
    Calls Tryd.prog 6 #[v] w (LawP w) := by
  have HV := Lib.hid hv
  have HL := Lib.hid hl
  have HW := Lib.hid hw
  clear hv hl hw
  go_enter Tryd.func6, Tryd.ntmps6
  go_wp2_with fail
  go_at_call 10
  refine (awake_any w L).mono ?_
  rintro e w1 ⟨rfl, hb1⟩
  have L1 := L.below hb1
  have HB1 := Lib.hid hb1
  have HV1 := Lib.hid (HV.out.below hb1)
  clear hb1
  go_wp2_with fail
  go_at_call 15
  refine (few_in v l w1 HV1.out HL.out HW.out).mono ?_
  rintro e w2 ⟨rfl, rfl⟩
  cases hf : fewF l with
  | false =>
    go_wp2_with fail
    go_at_call 10
    refine (awake_any w1 L1).mono ?_
    rintro e w2 ⟨rfl, hb2⟩
    go_wp2
    go_ret
    exact ⟨rfl, HB1.out.trans (hb2.mono HB1.out.size)⟩
  | true =>
    obtain ⟨hl4, ho⟩ := few_ok HW.out hf
    have HO := Lib.hid ho
    clear ho
    go_wp2_with fail
    go_at_call 12
    refine (rprint_any v l w1 HV1.out (by omega) HO.out).mono ?_
    rintro e w2 ⟨hb2, he⟩
    have L2 := L1.below hb2
    have HB2 := Lib.hid (HB1.out.trans (hb2.mono HB1.out.size))
    have HV2 := Lib.hid (HV1.out.below hb2)
    clear hb2
    cases hr : Tx.refPrint l [] with
    | none =>
      rw [hr] at he
      obtain ⟨s, rfl⟩ := he
      go_wp2
      go_ret
      exact ⟨rfl, HB2.out⟩
    | some t =>
      rw [hr] at he
      subst he
      have ht := (Tx.refPrint_some l [] t (fun x hx => stepOk (HO.out x hx)) hr).1
      simp only [List.nil_append] at ht
      have HT := Lib.hid ht
      clear ht hr
      go_wp2_with fail
      go_at_call 18
      refine (print_any v l w2 HV2.out (by omega) HO.out L2).mono ?_
      rintro e w3 ⟨rfl, hb3⟩
      have hpt : (printF l == t) = true := by rw [HT.out]; simp [printF, Tx.printF]
      go_wp2
      go_ret
      exact ⟨rfl, HB2.out.trans (hb3.mono HB2.out.size)⟩

end Go.Proofs.YtjjlmhlfobmpgaaDoor
