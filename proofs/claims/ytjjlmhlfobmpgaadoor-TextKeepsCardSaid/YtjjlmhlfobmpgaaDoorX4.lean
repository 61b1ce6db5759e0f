/-
Walks: windrowlaw25.TextReads.
-/
import Derived.Test.YtjjlmhlfobmpgaaDoorX3
namespace Go.Proofs.YtjjlmhlfobmpgaaDoor
open Go.RowKit

theorem str_len (s : Tx.Bytes) : (⟨s.toArray⟩ : ByteArray).size = s.length := by simp [ByteArray.size]

theorem ext_eq (s : Tx.Bytes) (i j : Nat) : (⟨s.toArray⟩ : ByteArray).extract i j = ⟨((s.take j).drop i).toArray⟩ := by
  apply ByteArray.ext
  rw [ByteArray.data_extract, List.drop_take]
  simp

/-- What is read has few steps, and short lists. -/
theorem parsed_few {s : Tx.Bytes} {l : List Tx.StepV} (h : Tx.parseA s = .ok l) (hs : s.length ≤ 3000) : l.length ≤ 3000 ∧ ∀ x ∈ l, x.keep.length ≤ 3001 := by
  obtain ⟨h1, h2⟩ := Tx.parseA_ok h
  have h3 := Tx.printF_len_ge l
  rw [← h1] at h3
  refine ⟨by omega, fun x hx => ?_⟩
  have h4 := Tx.step_keep (h2 x hx).read
  have h5 := Tx.splitS_len (Lib.join (Tx.lineL x) [32])
  obtain ⟨i, hi⟩ := List.getElem?_of_mem hx
  have h6 := Tx.line_split i x hi
  rw [← h1] at h6
  have h7 := congrArg List.length h6
  simp only [List.length_append, List.length_cons] at h7
  omega

theorem rline_any2 (x : Tx.StepV) (kv : Value) (w : World) (hd : x.op.data.length = 32) (hsf : x.soft < 18446744073709551616) (hkl : x.keep.length ≤ 1000001) (hk : KeepR w kv x.keep) :
    Calls Tryd.prog 16 #[.agg (stepCells x kv).toArray] w (RLineP (Tx.refLine x) w) := by
  cases hc : x.crash with
  | true =>
    cases h1 : Tx.opEq x.op Tx.op0 with
    | false => exact rline_crash1 x kv w hd hk hc h1
    | true =>
      cases h2 : (x.arm != 0) with
      | true => exact rline_crash2 x kv w hd hk hc h1 h2
      | false =>
        cases h3 : Tx.fits x.tear with
        | false => exact rline_crash3 x kv w hd hk hc h1 h2 h3
        | true => exact rline_crash4 x kv w hd hk hc h1 h2 h3 hkl hsf
  | false =>
    cases h2 : ((x.soft : Int) != 0) with
    | true => exact rline_soft x kv w hd hk hc h2
    | false =>
      cases h3 : (x.tear != 0) with
      | true => exact rline_tear x kv w hd hk hc h2 h3
      | false =>
        cases h4 : ((x.keep.length : Int) != 0) with
        | true => exact rline_keep x kv w hd hk hc h2 h3 h4
        | false =>
          cases h5 : (x.arm != 0) with
          | true =>
            cases h1 : Tx.opEq x.op Tx.op0 with
            | false => exact rline_arm1 x kv w hd hk hc h2 h3 h4 h5 h1
            | true =>
              cases h6 : Tx.fits x.arm with
              | false => exact rline_arm2 x kv w hd hk hc h2 h3 h4 h5 h1 h6
              | true => exact rline_arm3 x kv w hd hk hc h2 h3 h4 h5 h1 h6
          | false =>
            cases hnm : Tx.nameF x.op.kind x.op.sync with
            | mk nm tl =>
              by_cases hn : nm = []
              · exact rline_op1 x kv w hd hk hc h2 h3 h4 h5 nm tl hnm hn
              · exact rline_op2 x kv w hd hk hc h2 h3 h4 h5 nm tl hnm hn

theorem take_len {l : List Tx.StepV} (k : Nat) : (Tx.printF (l.take k)).length ≤ (Tx.printF l).length := by
  conv => rhs; rw [← List.take_append_drop k l, Tx.printF_app]
  simp

set_option maxHeartbeats 4000000 in
set_option maxRecDepth 100000 in
/-- windrowref25.Print of plain steps. -/
theorem rprint_plain (v : Value) (l : List Tx.StepV) (w : World) (hv : StepsR w v l) (hl : l.length ≤ 5000) (hp : ∀ x ∈ l, Tx.PlainS x) (hkl : ∀ x ∈ l, x.keep.length ≤ 1000001) (hlen : (Tx.printF l).length ≤ 1000000) :
    Calls Tryd.prog 12 #[v] w (RLineP (some (Tx.printF l)) w) := by
  have HV := Lib.hid hv
  obtain ⟨a, c, rfl, -⟩ := hv
  have HP := Lib.hid hp
  have HKL := Lib.hid hkl
  have HLEN := Lib.hid hlen
  clear hp hkl hlen
  go_enter Tryd.func12, Tryd.ntmps12
  go_wp2
  go_loopw [4, 5, 6, 7] (fun v4 i _ _ wr => ∃ (k : Nat), k ≤ l.length ∧ i = .int .i64 k ∧ v4 = .string ⟨(Tx.printF (l.take k)).toArray⟩ ∧ Below w.heap.size w wr) (fun _ i _ _ _ => l.length - (intOf i).toNat)
  case atStart => exact ⟨0, Nat.zero_le _, rfl, rfl, Below.refl _ _⟩
  case round =>
    obtain ⟨k, hk, rfl, rfl, hb⟩ := hrel
    have HB := Lib.hid hb
    by_cases hlt : k < l.length
    · obtain ⟨x, hx⟩ : ∃ x, l[k]? = some x := ⟨_, List.getElem?_eq_getElem hlt⟩
      have hxl := List.mem_of_getElem? hx
      obtain ⟨a', c', hac, hh⟩ := HV.out
      obtain ⟨b, o, ha, hcells⟩ := hh (by intro e; rw [e] at hlt; simp at hlt)
      injection hac with hac1 hac2 hac3
      subst hac1
      subst ha
      obtain ⟨kv, hr, hkv⟩ := hcells k x hx
      have HR := Lib.hid (rangeAt_below hr hb)
      have HK := Lib.hid (hkv.below hb)
      have HX := Lib.hid (HP.out x hxl)
      have HSZ := Lib.hid (stepCells_len (kv := kv) HX.out.ok.2)
      have hlt2 : (k : Int) < (l.length : Int) := by omega
      have HKX := Lib.hid (HKL.out x hxl)
      have HE : Hid (Tx.printF (l.take (k + 1)) = Tx.printF (l.take k) ++ Tx.lineF x) := Lib.hid (by rw [Tx.take_split2 k x hx]; rfl)
      have hle1 : (Tx.printF (l.take k)).length ≤ 1000000 := Nat.le_trans (take_len k) HLEN.out
      have hle2 : (Tx.lineF x).length ≤ 1000000 := by
        have h1 := Nat.le_trans (take_len (k + 1)) HLEN.out
        rw [HE.out] at h1
        simp at h1
        omega
      clear hr hkv hb hx hcells hh hac2 hac3
      go_wp2_with ((with_reducible show wpList _ _ _ ({ dst := _, op := Op.load 41 _, type := _, pos := _, after := _, guard := _ } :: _) _ _); refine wpList_load_mid rfl 41 _ rfl b (o + k * 42) rfl (stepCells x kv) _ HR.out Tryd.underlying41 rfl (info41.trans (congrArg some (HSZ.out.symm.trans (by simp)))) ?_)
      refine (rline_any2 x kv _ HX.out.ok.2 HX.out.ok.1 HKX.out HK.out).mono ?_
      rintro e w1 ⟨hb1, he⟩
      have HB1 := Lib.hid (HB.out.trans (hb1.mono HB.out.size))
      clear hb1
      rw [HX.out.ref] at he
      subst he
      go_wp2
      go_roundw
      case rel => exact ⟨k + 1, by omega, by go_num, by rw [HE.out, str_add], HB1.out⟩
      case measure => simp [intOf]; omega
    · have hke : k = l.length := by omega
      have HKE := Lib.hid hke
      have hlt2 : ¬ (k : Int) < (l.length : Int) := by omega
      clear hke
      go_wp2
      go_ret2
      refine ⟨hb, ?_⟩
      show Ending.returned _ = Ending.returned _
      rw [HKE.out, List.take_length]
      rfl

theorem fromF_mono (s : Tx.Bytes) {i j : Nat} (h : i ≤ j) : Tx.fromF s i ≤ Tx.fromF s j := by
  induction h with
  | refl => exact Nat.le_refl _
  | step h ih =>
    refine Nat.le_trans ih ?_
    show _ ≤ Tx.nl s _ + 1
    have := Tx.nl_ge s (Tx.fromF s ‹Nat›)
    omega

set_option maxHeartbeats 8000000 in
set_option maxRecDepth 100000 in
/-- TextReads. -/
theorem reads_walk (s : Tx.Bytes) (w : World) (hs : s.length ≤ reachBytes) (L : Ld w) : Calls Tryd.prog 3 #[.string ⟨s.toArray⟩] w (LawP w) := by
  rw [reach_val] at hs
  go_enter Tryd.func3, Tryd.ntmps3
  go_wp2_with fail
  go_at_call 10
  refine (awake_any w L).mono ?_
  rintro e w1 ⟨rfl, hb1⟩
  have L1 := L.below hb1
  have HB1 := Lib.hid hb1
  clear hb1
  by_cases h3 : s.length ≤ 3000
  · have h3' : ¬ (3000 : Int) < (s.length : Int) := by omega
    go_wp2_with fail
    go_at_call 11
    refine (parse_any s w1 (by omega) L1).mono ?_
    rintro e w2 ⟨hb2, he⟩
    have HB2 := Lib.hid (HB1.out.trans (hb2.mono HB1.out.size))
    have L2 := L1.below hb2
    clear hb2
    rw [parseA_eq] at he
    cases hp : Tx.parseA s with
    | ok l =>
      rw [hp] at he
      obtain ⟨v, ps, rfl, hps, hout⟩ := he
      obtain ⟨hs1, hpl⟩ := Tx.parseA_ok hp
      obtain ⟨hf1, hf2⟩ := parsed_few hp h3
      have hst := hout.stepsR
      rw [hps] at hst
      have HST := Lib.hid hst
      have HPL := Lib.hid hpl
      have HF2 := Lib.hid hf2
      have HS1 := Lib.hid hs1
      clear hst hpl hf2 hs1 hout hp hps
      go_wp2_with fail
      go_at_call 12
      refine (rprint_plain v l w2 HST.out (by omega) HPL.out (fun x hx => by have := HF2.out x hx; omega) (by rw [← HS1.out]; omega)).mono ?_
      rintro e w3 ⟨hb3, he⟩
      subst he
      have heq : (Tx.printF l == s) = true := by rw [← HS1.out]; simp
      go_wp2
      go_ret
      exact ⟨rfl, HB2.out.trans (hb3.mono HB2.out.size)⟩
    | error m =>
      rw [hp] at he
      obtain rfl := he
      obtain ⟨m1, m2, a, b, e1, e2, e3, ⟨la, e4⟩, e5, e6, e7⟩ := Tx.reads_err hp
      have hcs : s.count 10 ≤ s.length := List.count_le_length
      have hm1 : ¬ ((m : Int) < 1) := by omega
      have hlb : linesF s ≤ s.length := hcs
      have hm2 : ¬ (((linesF s : Nat) : Int) + 1 < (m : Int)) := by unfold linesF; omega
      have HE1 := Lib.hid e1
      have HE2 := Lib.hid e2
      have HE4 := Lib.hid e4
      have HE6 := Lib.hid e6
      have HE7 := Lib.hid e7
      clear e1 e2 e4 e6 e7 hp hcs
      go_wp2_with fail
      go_at_call 13
      refine (lines_any s w2 (by omega)).mono ?_
      rintro e w' ⟨rfl, rfl⟩
      go_wp2
      go_loopw [8, 9] (fun v8 v9 wr => ∃ j : Nat, j ≤ m - 1 ∧ v9 = .int .i64 (j + 1) ∧ v8 = .int .i64 (Tx.fromF s j) ∧ wr = w2) (fun _ v9 _ => m - (intOf v9).toNat)
      case atStart => exact ⟨0, Nat.zero_le _, rfl, rfl, rfl⟩
      case round =>
        obtain ⟨j, hj, rfl, rfl, rfl⟩ := hrel
        obtain ⟨p, hp⟩ : ∃ p, p = Tx.fromF s j := ⟨_, rfl⟩
        rw [← hp]
        have HP := Lib.hid hp
        obtain ⟨w2, rfl⟩ : ∃ w2 : World, w2 = wr := ⟨_, rfl⟩
        by_cases hjm : j < m - 1
        · have hjm2 : (j : Int) + 1 < (m : Int) := by omega
          have hnext : Tx.nl s p + 1 ≤ s.length := by
            have h1 := fromF_mono s (i := j + 1) (j := m - 1) (by omega)
            rw [HE1.out] at h1
            rw [hp]
            exact Nat.le_trans h1 e3
          clear hp
          go_wp2
          go_loopw [8] (fun vq wi => ∃ q : Nat, vq = .int .i64 q ∧ p ≤ q ∧ q ≤ Tx.nl s p ∧ wi = w2) (fun vq _ => Tx.nl s p - (intOf vq).toNat)
          case atStart => exact ⟨p, rfl, Nat.le_refl _, Tx.nl_ge s p, rfl⟩
          case round =>
            obtain ⟨q, rfl, hq1, hq2, rfl⟩ := hrel
            by_cases hqn : q < Tx.nl s p
            · obtain ⟨c, hc, hc10⟩ := Tx.nl_before hq1 hqn
              have hql : q < s.length := (List.getElem?_eq_some_iff.1 hc).1
              have hix := fun w' => M.run_index_str (P := Tryd.prog) 9 Tryd.underlying9 ⟨s.toArray⟩ .i64 (q : Int) c (by omega) (by simpa using hc) w'
              have hne : ((c.toNat : Int) != 10) = true := by
                have : ¬ c.toNat = 10 := fun e => hc10 (UInt8.toNat_inj.1 e)
                simp; omega
              have hlt : (q : Int) < (s.length : Int) := by omega
              clear hc hc10
              go_wp2
              go_roundw
              case rel => exact ⟨q + 1, by go_num, by omega, by omega, by first | trivial | rfl⟩
              case measure => simp [intOf]; omega
            · have hqe : q = Tx.nl s p := by omega
              have hql : q < s.length := by omega
              have hc : s[q]? = some 10 := by rw [hqe]; exact Tx.nl_hit (by omega)
              obtain ⟨c, hc10⟩ : ∃ c : UInt8, c = 10 := ⟨_, rfl⟩
              rw [← hc10] at hc
              have hix := fun w' => M.run_index_str (P := Tryd.prog) 9 Tryd.underlying9 ⟨s.toArray⟩ .i64 (q : Int) c (by omega) (by simpa using hc) w'
              have hne : ((c.toNat : Int) != 10) = false := by rw [hc10]; rfl
              have hlt : (q : Int) < (s.length : Int) := by omega
              clear hc hc10
              have HQ := Lib.hid hqe
              clear hqe hqn
              go_wp2
              go_roundw
              case rel =>
                refine ⟨j + 1, by omega, by go_num, ?_, by first | trivial | rfl⟩
                show Value.int .i64 ((q : Int) + 1) = .int .i64 ((Tx.nl s (Tx.fromF s j) + 1 : Nat) : Int)
                rw [← HP.out, ← HQ.out]
                rfl
              case measure => simp [intOf]; omega
        · have hjm2 : ¬ ((j : Int) + 1 < (m : Int)) := by omega
          have hje : j = m - 1 := by omega
          have hpa : p = a.length := by rw [hp, hje, HE1.out]
          have hpl : ¬ ((s.length : Int) < (p : Int)) := by omega
          have HPA := Lib.hid hpa
          have hnl : Tx.nl s p ≤ s.length := by rw [hpa]; exact e5
          clear hp hje hpa
          go_wp2
          go_loopw [10] (fun vq wi => ∃ q : Nat, vq = .int .i64 q ∧ p ≤ q ∧ q ≤ Tx.nl s p ∧ wi = w2) (fun vq _ => Tx.nl s p - (intOf vq).toNat)
          case atStart => exact ⟨p, rfl, Nat.le_refl _, Tx.nl_ge s p, rfl⟩
          case round =>
            obtain ⟨q, rfl, hq1, hq2, rfl⟩ := hrel
            by_cases hqn : q < Tx.nl s p
            · obtain ⟨c, hc, hc10⟩ := Tx.nl_before hq1 hqn
              have hql : q < s.length := (List.getElem?_eq_some_iff.1 hc).1
              have hix := fun w' => M.run_index_str (P := Tryd.prog) 9 Tryd.underlying9 ⟨s.toArray⟩ .i64 (q : Int) c (by omega) (by simpa using hc) w'
              have hne : ((c.toNat : Int) != 10) = true := by
                have : ¬ c.toNat = 10 := fun e => hc10 (UInt8.toNat_inj.1 e)
                simp; omega
              have hlt : (q : Int) < (s.length : Int) := by omega
              clear hc hc10
              go_wp2
              go_roundw
              case rel => exact ⟨q + 1, by go_num, by omega, by omega, by first | trivial | rfl⟩
              case measure => simp [intOf]; omega
            · have hqe : q = Tx.nl s p := by omega
              by_cases hnl2 : Tx.nl s p < s.length
              · have hql : q < s.length := by omega
                have hc : s[q]? = some 10 := by rw [hqe]; exact Tx.nl_hit (by omega)
                obtain ⟨c, hc10⟩ : ∃ c : UInt8, c = 10 := ⟨_, rfl⟩
                rw [← hc10] at hc
                have hix := fun w' => M.run_index_str (P := Tryd.prog) 9 Tryd.underlying9 ⟨s.toArray⟩ .i64 (q : Int) c (by omega) (by simpa using hc) w'
                have hne : ((c.toNat : Int) != 10) = false := by rw [hc10]; rfl
                have hlt : (q : Int) < (s.length : Int) := by omega
                have HC := Lib.hid hc
                clear hc hc10
                have HQ := Lib.hid hqe
                clear hqe hqn
                have ha : (s.take p).drop 0 = a := by rw [HPA.out]; simpa using HE2.out
                have hbb : (s.take (q + 1)).drop p = b := by
                  have h1 := hnl2
                  rw [HPA.out] at h1
                  rw [HE6.out, if_pos h1, HQ.out, HPA.out]
                have hbl : b.length ≤ s.length := by rw [← hbb]; simp; omega
                have HA := Lib.hid ha
                have HBB := Lib.hid hbb
                clear ha hbb
                go_wp2_with fail
                rw [ext_eq, HA.out]
                refine (parse_any a wr (by omega) L2).mono ?_
                rintro e w5 ⟨hb5, he5⟩
                rw [parseA_eq, HE4.out] at he5
                obtain ⟨v5, ps5, rfl, _, _⟩ := he5
                have HB5 := Lib.hid (HB2.out.trans (hb5.mono HB2.out.size))
                have L5 := L2.below hb5
                clear hb5
                go_wp2_with fail
                rw [ext_eq, HBB.out]
                refine (parse_any b w5 (by omega) L5).mono ?_
                rintro e w6 ⟨hb6, he6⟩
                rw [parseA_eq, HE7.out] at he6
                obtain rfl := he6
                go_wp2
                go_ret
                exact ⟨rfl, HB5.out.trans (hb6.mono HB5.out.size)⟩
              · have hql : ¬ ((q : Int) < (s.length : Int)) := by omega
                have HQ := Lib.hid hqe
                clear hqe hqn
                have ha : (s.take p).drop 0 = a := by rw [HPA.out]; simpa using HE2.out
                have hbb : (s.take (q)).drop p = b := by
                  have h1 := hnl2
                  rw [HPA.out] at h1
                  rw [HE6.out, if_neg h1, HQ.out, HPA.out]
                have hbl : b.length ≤ s.length := by rw [← hbb]; simp; omega
                have HA := Lib.hid ha
                have HBB := Lib.hid hbb
                clear ha hbb
                go_wp2_with fail
                rw [ext_eq, HA.out]
                refine (parse_any a wr (by omega) L2).mono ?_
                rintro e w5 ⟨hb5, he5⟩
                rw [parseA_eq, HE4.out] at he5
                obtain ⟨v5, ps5, rfl, _, _⟩ := he5
                have HB5 := Lib.hid (HB2.out.trans (hb5.mono HB2.out.size))
                have L5 := L2.below hb5
                clear hb5
                go_wp2_with fail
                rw [ext_eq, HBB.out]
                refine (parse_any b w5 (by omega) L5).mono ?_
                rintro e w6 ⟨hb6, he6⟩
                rw [parseA_eq, HE7.out] at he6
                obtain rfl := he6
                go_wp2
                go_ret
                exact ⟨rfl, HB5.out.trans (hb6.mono HB5.out.size)⟩
  · have h3' : (3000 : Int) < (s.length : Int) := by omega
    go_wp2_with fail
    go_at_call 10
    refine (awake_any w1 L1).mono ?_
    rintro e w2 ⟨rfl, hb2⟩
    go_wp2
    go_ret
    exact ⟨rfl, HB1.out.trans (hb2.mono HB1.out.size)⟩

end Go.Proofs.YtjjlmhlfobmpgaaDoor
