/-
Walks: windrowlaw25.TextLines.
-/
import Derived.Test.YtjjlmhlfobmpgaaDoorX4
namespace Go.Proofs.YtjjlmhlfobmpgaaDoor
open Go.RowKit

/-- One step of a row of steps. -/
theorem steps_sub {w : World} {b o n c c' : Nat} {l : List Tx.StepV} (h : StepsR w (.slice (some ⟨b, o, none⟩) n c) l) (j : Nat) (x : Tx.StepV) (hj : l[j]? = some x) :
    StepsR w (.slice (some ⟨b, o + j * 42, none⟩) 1 c') [x] := by
  obtain ⟨a, c2, he, hh⟩ := h
  obtain ⟨b2, o2, ha, hc⟩ := hh (by intro e; rw [e] at hj; simp at hj)
  subst ha
  injection he with he1 _ _
  injection he1 with he1
  injection he1 with e1 e2 _
  subst e1
  subst e2
  refine ⟨_, c', rfl, fun _ => ⟨_, _, rfl, fun k y hy => ?_⟩⟩
  cases k with
  | zero =>
    simp only [List.getElem?_cons_zero, Option.some.injEq] at hy
    subst hy
    obtain ⟨kv, h1, h2⟩ := hc j x hj
    exact ⟨kv, by simpa using h1, h2⟩
  | succ k => simp at hy

theorem own_cap {w : World} {base : Nat} {e : TypeId} {size : Nat} {a : Option Addr} {n c m : Nat} {xs : List Value} (h : w.ownsRow base e size (.slice a n c) m xs) : m ≤ c := by
  rcases h.2 with ⟨_, e2⟩ | ⟨g, cap, cur, e1, _, _, hc, _⟩
  · omega
  · injection e1 with _ _ e3
    omega

set_option maxHeartbeats 8000000 in
set_option maxRecDepth 100000 in
/-- TextLines. -/
theorem lines_walk (s : Tx.Bytes) (w : World) (hs : s.length ≤ reachBytes) (L : Ld w) : Calls Tryd.prog 4 #[.string ⟨s.toArray⟩] w (LawP w) := by
  rw [reach_val] at hs
  go_enter Tryd.func4, Tryd.ntmps4
  go_wp2_with fail
  go_at_call 10
  refine (awake_any w L).mono ?_
  rintro e w1 ⟨rfl, hb1⟩
  have L1 := L.below hb1
  have HB1 := Lib.hid hb1
  clear hb1
  by_cases h3 : s.length ≤ 3000
  · have h3' : ¬ (3000 : Int) < (s.length : Int) := by omega
    go_wp2_with fail
    go_at_call 11
    refine (parse_any s w1 (by omega) L1).mono ?_
    rintro e w2 ⟨hb2, he⟩
    have HB2 := Lib.hid (HB1.out.trans (hb2.mono HB1.out.size))
    have L2 := L1.below hb2
    clear hb2
    rw [parseA_eq] at he
    cases hp : Tx.parseA s with
    | error m =>
      rw [hp] at he
      obtain rfl := he
      go_wp2
      go_ret
      exact ⟨rfl, HB2.out⟩
    | ok l =>
      rw [hp] at he
      obtain ⟨v, ps, rfl, hps, hout⟩ := he
      obtain ⟨hl1, hl2, hl3⟩ := Tx.lines_ok hp
      obtain ⟨hf1, hf2⟩ := parsed_few hp h3
      have hd : ∀ x ∈ l, x.op.data.length = 32 := fun x hx => ((Tx.parseA_ok hp).2 x hx).ok.2
      have hst := hout.stepsR
      rw [hps] at hst
      have HST := Lib.hid hst
      have HL3 := Lib.hid hl3
      have HL2 := Lib.hid hl2
      have HF2 := Lib.hid hf2
      have HD := Lib.hid hd
      obtain ⟨a, cp, rfl, hcc⟩ := hst
      have hcp := own_cap hout.row
      have hpl : ps.length = l.length := by rw [← hps]; simp
      have HCC := Lib.hid hcc
      have hlf : linesF s = l.length := hl1.symm
      have HLF := Lib.hid hlf
      clear hl1 hl2 hl3 hf2 hd hps hout hp hcc hlf
      go_wp2_with fail
      go_at_call 13
      refine (lines_any s w2 (by omega)).mono ?_
      rintro e w' ⟨rfl, rfl⟩
      rw [HLF.out]
      go_wp2
      go_loopw [6, 7, 8, 9, 10, 11] (fun v6 v7 _ _ _ _ wr => ∃ j : Nat, j ≤ l.length ∧ v7 = .int .i64 j ∧ v6 = .int .i64 (Tx.fromF s j) ∧ Below w2.heap.size w2 wr) (fun _ v7 _ _ _ _ _ => l.length - (intOf v7).toNat)
      case atStart => exact ⟨0, Nat.zero_le _, rfl, rfl, Below.refl _ _⟩
      case round =>
        obtain ⟨j, hj, rfl, rfl, hb⟩ := hrel
        have HB := Lib.hid hb
        clear hb
        obtain ⟨p, hp⟩ : ∃ p, p = Tx.fromF s j := ⟨_, rfl⟩
        rw [← hp]
        by_cases hjl : j < l.length
        · obtain ⟨x, hx⟩ : ∃ x, l[j]? = some x := ⟨_, List.getElem?_eq_getElem hjl⟩
          have hxl := List.mem_of_getElem? hx
          obtain ⟨g1, g2, g3⟩ := HL3.out j x hx
          rw [← hp] at g1 g2 g3
          obtain ⟨b, o, rfl, -⟩ := HCC.out (by intro e; rw [e] at hjl; simp at hjl)
          have HSUB := Lib.hid (fun c' => steps_sub (c' := c') HST.out j x hx)
          have HG3 := Lib.hid g3
          have HP := Lib.hid hp
          have hjl2 : (j : Int) < (l.length : Int) := by omega
          obtain ⟨wo, rfl⟩ : ∃ wo : World, wo = wr := ⟨_, rfl⟩
          clear hp g3 hx
          go_wp2
          go_loopw [8] (fun vq wi => ∃ q : Nat, vq = .int .i64 q ∧ p ≤ q ∧ q ≤ Tx.nl s p ∧ wi = wo) (fun vq _ => Tx.nl s p - (intOf vq).toNat)
          case atStart => exact ⟨p, rfl, Nat.le_refl _, Tx.nl_ge s p, rfl⟩
          case round =>
            obtain ⟨q, rfl, hq1, hq2, rfl⟩ := hrel
            by_cases hqn : q < Tx.nl s p
            · obtain ⟨c, hc, hc10⟩ := Tx.nl_before hq1 hqn
              have hql : q < s.length := (List.getElem?_eq_some_iff.1 hc).1
              have hix := fun w' => M.run_index_str (P := Tryd.prog) 9 Tryd.underlying9 ⟨s.toArray⟩ .i64 (q : Int) c (by omega) (by simpa using hc) w'
              have hne : ((c.toNat : Int) != 10) = true := by
                have : ¬ c.toNat = 10 := fun e => hc10 (UInt8.toNat_inj.1 e)
                simp; omega
              have hlt : (q : Int) < (s.length : Int) := by omega
              clear hc hc10
              go_wp2
              go_roundw
              case rel => exact ⟨q + 1, by go_num, by omega, by omega, by first | trivial | rfl⟩
              case measure => simp [intOf]; omega
            · have hqe : q = Tx.nl s p := by omega
              have hql : q < s.length := by omega
              have hc : s[q]? = some 10 := by rw [hqe]; exact Tx.nl_hit (by omega)
              obtain ⟨c, hc10⟩ : ∃ c : UInt8, c = 10 := ⟨_, rfl⟩
              rw [← hc10] at hc
              have hix := fun w' => M.run_index_str (P := Tryd.prog) 9 Tryd.underlying9 ⟨s.toArray⟩ .i64 (q : Int) c (by omega) (by simpa using hc) w'
              have hne : ((c.toNat : Int) != 10) = false := by rw [hc10]; rfl
              have hlt : (q : Int) < (s.length : Int) := by omega
              clear hc hc10
              have HQ := Lib.hid hqe
              clear hqe hqn
              have hbb : (s.take (q + 1)).drop p = (s.take (Tx.nl s p + 1)).drop p := by rw [HQ.out]
              have HBB := Lib.hid hbb
              have hbl : ((s.take (Tx.nl s p + 1)).drop p).length ≤ s.length := by simp; omega
              have hkl := HF2.out x hxl
              clear hbb
              go_wp2_with fail
              rw [ext_eq, HBB.out]
              refine (parse_any _ wr (by omega) (L2.below HB.out)).mono ?_
              rintro e w5 ⟨hb5, he5⟩
              rw [parseA_eq, HG3.out] at he5
              obtain ⟨v5, ps5, rfl, hps5, hout5⟩ := he5
              have hs5 := hout5.stepsR
              rw [hps5] at hs5
              have HB5 := Lib.hid (HB.out.trans (hb5.mono HB.out.size))
              have HS5 := Lib.hid hs5
              have HSUB5 := Lib.hid (fun c' => (HSUB.out c').below HB5.out)
              have hcj : (j : Int) + 1 ≤ (cp : Int) := by omega
              have hcj2 : ¬ (cp = j) := by omega
              clear hb5 hs5 hout5 hps5
              go_wp2_with fail
              go_at_call 14
              refine (rsame_yes _ _ [x] w5 HS5.out (HSUB5.out _) (by simp) (by simpa using HD.out x hxl) (by simp; omega)).mono ?_
              rintro e w6 ⟨rfl, hb6⟩
              go_wp2
              go_roundw
              case rel =>
                refine ⟨j + 1, by omega, by go_num, ?_, HB5.out.trans (hb6.mono HB5.out.size)⟩
                show Value.int .i64 ((q : Int) + 1) = .int .i64 ((Tx.nl s (Tx.fromF s j) + 1 : Nat) : Int)
                rw [← HP.out, ← HQ.out]
                rfl
              case measure => simp [intOf]; omega
        · have hjl2 : ¬ (j : Int) < (l.length : Int) := by omega
          have hje : j = l.length := by omega
          have hps : p = s.length := by rw [hp, hje]; exact HL2.out
          subst hps
          clear hp hje
          go_wp2
          go_ret
          exact ⟨rfl, HB2.out.trans (HB.out.mono HB2.out.size)⟩
  · have h3' : (3000 : Int) < (s.length : Int) := by omega
    go_wp2_with fail
    go_at_call 10
    refine (awake_any w1 L1).mono ?_
    rintro e w2 ⟨rfl, hb2⟩
    go_wp2
    go_ret
    exact ⟨rfl, HB1.out.trans (hb2.mono HB1.out.size)⟩

end Go.Proofs.YtjjlmhlfobmpgaaDoor
