/-
Walks: windrowref25.Line whole, Print; Same of equal steps.
-/
import Derived.Test.YtjjlmhlfobmpgaaDoorV5
import Derived.Test.YtjjlmhlfobmpgaaDoorTp
namespace Go.Proofs.YtjjlmhlfobmpgaaDoor
open Go.RowKit

/-- windrowref25.Line. -/
theorem rline_any (x : Tx.StepV) (kv : Value) (w : World) (hx : StepOk2 x) (hk : KeepR w kv x.keep) :
    Calls Tryd.prog 16 #[.agg (stepCells x kv).toArray] w (RLineP (Tx.refLine x) w) := by
  have hd := hx.op.data
  cases hc : x.crash with
  | true =>
    cases h1 : Tx.opEq x.op Tx.op0 with
    | false => exact rline_crash1 x kv w hd hk hc h1
    | true =>
      cases h2 : (x.arm != 0) with
      | true => exact rline_crash2 x kv w hd hk hc h1 h2
      | false =>
        cases h3 : Tx.fits x.tear with
        | false => exact rline_crash3 x kv w hd hk hc h1 h2 h3
        | true => exact rline_crash4 x kv w hd hk hc h1 h2 h3 (by have := hx.few; omega) hx.soft
  | false =>
    cases h2 : ((x.soft : Int) != 0) with
    | true => exact rline_soft x kv w hd hk hc h2
    | false =>
      cases h3 : (x.tear != 0) with
      | true => exact rline_tear x kv w hd hk hc h2 h3
      | false =>
        cases h4 : ((x.keep.length : Int) != 0) with
        | true => exact rline_keep x kv w hd hk hc h2 h3 h4
        | false =>
          cases h5 : (x.arm != 0) with
          | true =>
            cases h1 : Tx.opEq x.op Tx.op0 with
            | false => exact rline_arm1 x kv w hd hk hc h2 h3 h4 h5 h1
            | true =>
              cases h6 : Tx.fits x.arm with
              | false => exact rline_arm2 x kv w hd hk hc h2 h3 h4 h5 h1 h6
              | true => exact rline_arm3 x kv w hd hk hc h2 h3 h4 h5 h1 h6
          | false =>
            cases hnm : Tx.nameF x.op.kind x.op.sync with
            | mk nm tl =>
              by_cases hn : nm = []
              · exact rline_op1 x kv w hd hk hc h2 h3 h4 h5 nm tl hnm hn
              · exact rline_op2 x kv w hd hk hc h2 h3 h4 h5 nm tl hnm hn

theorem stepOk {x : Tx.StepV} (h : StepOk2 x) : Tx.StepOk x := ⟨h.soft, h.op.data⟩

theorem refLine_len {x : Tx.StepV} {t : Tx.Bytes} (hx : StepOk2 x) (h : Tx.refLine x = some t) : t.length ≤ 30001 := by
  have h1 := (Tx.line_read (stepOk hx) h).1
  have := line_len hx
  rw [← h1, Tx.lineF_eq]
  simp; omega

set_option maxHeartbeats 4000000 in
set_option maxRecDepth 100000 in
/-- windrowref25.Print. -/
theorem rprint_any (v : Value) (l : List Tx.StepV) (w : World) (hv : StepsR w v l) (hl : l.length ≤ 5000) (ho : ∀ x ∈ l, StepOk2 x) :
    Calls Tryd.prog 12 #[v] w (RLineP (Tx.refPrint l []) w) := by
  have HV := Lib.hid hv
  obtain ⟨a, c, rfl, -⟩ := hv
  have HO := Lib.hid ho
  clear ho
  go_enter Tryd.func12, Tryd.ntmps12
  go_wp2
  go_loopw [4, 5, 6, 7] (fun v4 i _ _ wr => ∃ (k : Nat) (s : Tx.Bytes), k ≤ l.length ∧ i = .int .i64 k ∧ v4 = .string ⟨s.toArray⟩ ∧ s.length ≤ 30001 * k ∧ Tx.refPrint (l.drop k) s = Tx.refPrint l [] ∧ Below w.heap.size w wr) (fun _ i _ _ _ => l.length - (intOf i).toNat)
  case atStart => exact ⟨0, [], Nat.zero_le _, rfl, rfl, by simp, rfl, Below.refl _ _⟩
  case round =>
    obtain ⟨k, s, hk, rfl, rfl, hsl, hrp, hb⟩ := hrel
    have HRP := Lib.hid hrp
    have HB := Lib.hid hb
    clear hrp
    by_cases hlt : k < l.length
    · obtain ⟨x, hx⟩ : ∃ x, l[k]? = some x := ⟨_, List.getElem?_eq_getElem hlt⟩
      have hxl := List.mem_of_getElem? hx
      obtain ⟨a', c', hac, hh⟩ := HV.out
      obtain ⟨b, o, ha, hcells⟩ := hh (by intro e; rw [e] at hlt; simp at hlt)
      injection hac with hac1 hac2 hac3
      subst hac1
      subst ha
      obtain ⟨kv, hr, hkv⟩ := hcells k x hx
      have HR := Lib.hid (rangeAt_below hr hb)
      have HK := Lib.hid (hkv.below hb)
      have HX := Lib.hid (HO.out x hxl)
      have HSZ := Lib.hid (stepCells_len (kv := kv) HX.out.op.data)
      have hlt2 : (k : Int) < (l.length : Int) := by omega
      have hstep : Tx.refPrint (l.drop k) s = match Tx.refLine x with | some t => Tx.refPrint (l.drop (k + 1)) (s ++ t) | none => none := by
        obtain ⟨hk', he⟩ := List.getElem?_eq_some_iff.1 hx
        rw [List.drop_eq_getElem_cons hk', he]
        rfl
      have HST := Lib.hid hstep
      clear hr hkv hb hx hcells hh hac2 hac3 hstep
      go_wp2_with ((with_reducible show wpList _ _ _ ({ dst := _, op := Op.load 41 _, type := _, pos := _, after := _, guard := _ } :: _) _ _); refine wpList_load_mid rfl 41 _ rfl b (o + k * 42) rfl (stepCells x kv) _ HR.out Tryd.underlying41 rfl (info41.trans (congrArg some (HSZ.out.symm.trans (by simp)))) ?_)
      refine (rline_any x kv _ HX.out HK.out).mono ?_
      rintro e w1 ⟨hb1, he⟩
      have HB1 := Lib.hid (HB.out.trans (hb1.mono HB.out.size))
      clear hb1
      cases hrl : Tx.refLine x with
      | none =>
        rw [hrl] at he
        obtain ⟨s', rfl⟩ := he
        have HRL := Lib.hid hrl
        clear hrl
        go_wp2
        go_ret2
        have h0 : Tx.refPrint l [] = none := by rw [← HRP.out, HST.out, HRL.out]
        rw [h0]
        exact ⟨HB1.out, _, rfl⟩
      | some t =>
        rw [hrl] at he
        subst he
        have htl := refLine_len HX.out hrl
        have HRL := Lib.hid hrl
        clear hrl
        go_wp2
        go_roundw
        case rel =>
          refine ⟨k + 1, s ++ t, by omega, by go_num, by rw [str_add], by simp; omega, ?_, HB1.out⟩
          rw [← HRP.out, HST.out, HRL.out]
        case measure => simp [intOf]; omega
    · have hke : k = l.length := by omega
      have HKE := Lib.hid hke
      have hlt2 : ¬ (k : Int) < (l.length : Int) := by omega
      clear hke
      go_wp2
      go_ret2
      have h0 : Tx.refPrint l [] = some s := by
        rw [← HRP.out, List.drop_of_length_le (by have := HKE.out; omega)]
        rfl
      rw [h0]
      exact ⟨hb, rfl⟩

end Go.Proofs.YtjjlmhlfobmpgaaDoor
