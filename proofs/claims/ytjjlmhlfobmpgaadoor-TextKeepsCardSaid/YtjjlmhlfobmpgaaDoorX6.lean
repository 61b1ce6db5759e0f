/-
Walks: windrowlaw25.TextJoin.
-/
import Derived.Test.YtjjlmhlfobmpgaaDoorX5
import Derived.Laws.AppendOwnNone
namespace Go.Proofs.YtjjlmhlfobmpgaaDoor
open Go.RowKit

theorem rowCells_len : ∀ {ps : List (Tx.StepV × Value)}, (∀ p ∈ ps, p.1.op.data.length = 32) → (rowCells ps).length = ps.length * 42
  | [], _ => rfl
  | q :: r, hd => by
    have hl : (stepCells q.1 q.2).length = 42 := by simpa using stepCells_len (kv := q.2) (hd q (by simp))
    have := rowCells_len (ps := r) (fun x hx => hd x (List.mem_cons_of_mem _ hx))
    show ((stepCells q.1 q.2) ++ rowCells r).length = _
    rw [List.length_append, hl, this, List.length_cons]
    omega

theorem rowCells_get : ∀ {ps : List (Tx.StepV × Value)}, (∀ p ∈ ps, p.1.op.data.length = 32) → ∀ (j : Nat) (u : Value), (rowCells ps)[j]? = some u → ∃ p, ps[j / 42]? = some p ∧ (stepCells p.1 p.2)[j % 42]? = some u
  | [], _, j, u, h => by simp [rowCells] at h
  | q :: r, hd, j, u, h => by
    have hl : (stepCells q.1 q.2).length = 42 := by simpa using stepCells_len (kv := q.2) (hd q (by simp))
    have h' : ((stepCells q.1 q.2) ++ rowCells r)[j]? = some u := h
    by_cases hj : j < 42
    · rw [List.getElem?_append_left (by omega)] at h'
      refine ⟨q, ?_, ?_⟩
      · rw [Nat.div_eq_of_lt hj]; rfl
      · rw [Nat.mod_eq_of_lt hj]; exact h'
    · rw [List.getElem?_append_right (by omega), hl] at h'
      obtain ⟨p, h1, h2⟩ := rowCells_get (ps := r) (fun x hx => hd x (List.mem_cons_of_mem _ hx)) (j - 42) u h'
      refine ⟨p, ?_, ?_⟩
      · have : j / 42 = (j - 42) / 42 + 1 := by omega
        rw [this, List.getElem?_cons_succ]; exact h1
      · have : j % 42 = (j - 42) % 42 := by omega
        rw [this]; exact h2

/-- The steps that came in, each with its list. -/
structure PsR (w : World) (v : Value) (ps : List (Tx.StepV × Value)) : Prop where
  nil : v = .slice none 0 0 ∧ ps = [] ∨ ∃ ad c, v = .slice (some ad) ps.length c ∧ ∀ j u, (rowCells ps)[j]? = some u → w.cell? (ad.add j) = some u
  keeps : ∀ p ∈ ps, KeepR w p.2 p.1.keep
  data : ∀ p ∈ ps, p.1.op.data.length = 32

theorem psR_of {w : World} {v : Value} {l : List Tx.StepV} (h : StepsR w v l) (hn : StepsN w v l) (hd : ∀ x ∈ l, x.op.data.length = 32) : ∃ ps, ps.map (·.1) = l ∧ PsR w v ps := by
  obtain ⟨kvs, hk1, hk2⟩ := list_of (P := fun k kv => ∀ x, l[k]? = some x → ∃ b o c, v = .slice (some ⟨b, o, none⟩) l.length c ∧ w.rangeAt b (o + k * 42) (stepCells x kv) ∧ KeepR w kv x.keep) l.length (fun k hk => by
    have hx : l[k]? = some l[k] := List.getElem?_eq_getElem hk
    obtain ⟨b, o, c, kv, h1, h2, h3, _⟩ := hn.2 k _ hx
    exact ⟨kv, fun x hx' => by rw [hx] at hx'; cases hx'; exact ⟨b, o, c, h1, h2, h3⟩⟩)
  have hz1 : (l.zip kvs).map (·.1) = l := by rw [List.map_fst_zip]; omega
  have hzl : (l.zip kvs).length = l.length := by rw [List.length_zip, hk1]; omega
  have hzd : ∀ p ∈ l.zip kvs, p.1.op.data.length = 32 := fun p hp => hd p.1 (List.of_mem_zip hp).1
  have hzat : ∀ (k : Nat) (p : Tx.StepV × Value), (l.zip kvs)[k]? = some p → l[k]? = some p.1 ∧ kvs[k]? = some p.2 := fun k p hp => by
    rw [List.getElem?_zip_eq_some] at hp; exact hp
  refine ⟨l.zip kvs, hz1, ⟨?_, fun p hp => ?_, hzd⟩⟩
  · obtain ⟨a, c, rfl, hh⟩ := h
    rcases hn.1 with hnil | ⟨ad, n, c2, hsome⟩
    · left
      injection hnil with e1 e2 e3
      refine ⟨by rw [e1, e2, e3], ?_⟩
      have : l = [] := List.eq_nil_of_length_eq_zero e2
      rw [this]; rfl
    · right
      injection hsome with e1 e2 e3
      subst e1
      refine ⟨ad, c, by rw [hzl], fun j u hj => ?_⟩
      obtain ⟨p, h1, h2⟩ := rowCells_get hzd j u hj
      obtain ⟨h3, h4⟩ := hzat _ _ h1
      obtain ⟨b, o, c3, h5, h6, _⟩ := hk2 _ _ h4 _ h3
      injection h5 with h5 _ _
      injection h5 with h5
      rw [h5, Lib.add_plain]
      have := h6 (j % 42) u h2
      have e : o + j / 42 * 42 + j % 42 = o + j := by omega
      rw [e] at this
      exact this
  · obtain ⟨k, hk⟩ := List.getElem?_of_mem hp
    obtain ⟨h3, h4⟩ := hzat _ _ hk
    obtain ⟨_, _, _, _, _, h7⟩ := hk2 _ _ h4 _ h3
    exact h7

theorem PsR.below {w w' : World} {v : Value} {ps : List (Tx.StepV × Value)} (h : PsR w v ps) (hb : Below w.heap.size w w') : PsR w' v ps := by
  refine ⟨?_, fun p hp => (h.keeps p hp).below hb, h.data⟩
  rcases h.nil with h1 | ⟨ad, c, h1, h2⟩
  · exact .inl h1
  · refine .inr ⟨ad, c, h1, fun j u hj => ?_⟩
    have h3 := h2 j u hj
    rw [hb.cell (World.block_lt_of_cell? _ _ h3)]
    exact h3

theorem one_rowCells {w : World} {v : Value} {ps : List (Tx.StepV × Value)} (h : PsR w v ps) : ∀ u ∈ rowCells ps, u.oneCell' = true := fun u hu => by
  obtain ⟨p, hp, hu⟩ := List.mem_flatMap.1 hu
  exact Array.all_eq_true_iff_forall_mem.1 (one_step p.1 p.2 (keep_one (h.keeps p hp))) u (by simpa using hu)

theorem steps_of_row {w : World} {base n : Nat} {v : Value} {ps : List (Tx.StepV × Value)} (h : w.ownsRow base 41 42 v n (rowCells ps)) (hn : n = ps.length) (hk : ∀ p ∈ ps, KeepR w p.2 p.1.keep) (hd : ∀ p ∈ ps, p.1.op.data.length = 32) :
    StepsR w v (ps.map (·.1)) := by
  subst hn
  rcases h.2 with ⟨rfl, hl⟩ | ⟨g, cap, cur, rfl, _⟩
  · exact ⟨none, 0, by simp [hl], fun hn => absurd (by simpa using hl) hn⟩
  · refine ⟨some ⟨g, 0, none⟩, cap, by simp, fun _ => ⟨g, 0, rfl, fun k x hx => ?_⟩⟩
    rw [List.getElem?_map] at hx
    cases hp : ps[k]? with
    | none => simp [hp] at hx
    | some p =>
      simp only [hp, Option.map_some, Option.some.injEq] at hx
      subst hx
      refine ⟨p.2, fun j v hj => ?_, hk p (List.mem_of_getElem? hp)⟩
      have := h.cells rfl (k * 42 + j) v (rowCells_at ps k p hd hp j v hj)
      rw [Lib.add_plain] at this
      show w.cell? ⟨g, 0 + k * 42 + j, none⟩ = _
      rw [Nat.add_assoc]
      exact this

theorem rowCells_app (a b : List (Tx.StepV × Value)) : rowCells (a ++ b) = rowCells a ++ rowCells b := by simp [rowCells]

/-- Steps that came in, behind the call's own. -/
theorem wpList_append_ps {w : World} {ops : Array Oper} {rest : List Oper} {o : Oper} {a : Act} {Q : Exit → Act → World → Prop} (hgd : o.guard = none) (s x : Operand)
    (ho : o.op = .call { callee := .builtin .append, args := #[s, x], argTypes := #[23, 23] }) (base : Nat) (v : Value) (n : Nat) (xs : List Value) (hs : a.eval s = v) (hown : w.ownsRow base 41 42 v n xs)
    (vx : Value) (ps : List (Tx.StepV × Value)) (hx : a.eval x = vx) (hp : PsR w vx ps) (hn : n + ps.length ≤ 10000) (hbase : base ≤ w.heap.size)
    (h : ∀ v' w', w'.ownsRow base 41 42 v' (n + ps.length) (xs ++ rowCells ps) → w.grownBy w' v.ownBlock → wpList Tryd.prog ops Q rest (a.put o.dst v') w') : wpList Tryd.prog ops Q (o :: rest) a w := by
  obtain ⟨i0, hi0, hz0, hz1, hz2⟩ := info_parts info41z
  rcases hp.nil with ⟨hv, he⟩ | ⟨ad, c, hv, hc⟩
  · rw [hv] at hx
    refine wpList_append_own_none hgd s x 23 ho base 41 i0 42 Tryd.underlying23 hi0 v n xs hs hown hx (h v w ?_ (World.grownBy.refl _ _))
    rw [he]
    exact M.own_eq hown (by simp) (by simp [rowCells])
  · rw [hv] at hx
    refine wpList_append_own _ hgd s x 23 ho base 41 i0 _ 42 128 Tryd.underlying23 hi0 hz0 hz1 hz2 rfl (by decide) v n xs hs hown ad ps.length c (rowCells ps) hx (rowCells_len hp.data) hc (one_rowCells hp) (by unfold maxLen; omega) (by omega) hbase ?_
    intro v' w' h1 h2 _
    exact h v' w' h1 h2

theorem own_made0 {w : World} (h : w.heap.size ≤ w.heap.size) : (w.alloc (.cells #[] 41)).ownsRow w.heap.size 41 42 (.slice (some ⟨w.heap.size, 0, none⟩) 0 0) 0 [] := World.ownsRow_made w #[] 0 h (by decide) rfl

set_option maxHeartbeats 8000000 in
set_option maxRecDepth 100000 in
/-- TextJoin. -/
theorem join_walk (va : Value) (a : List Tx.StepV) (vb : Value) (b : List Tx.StepV) (w : World) (hva : StepsR w va a) (hla : a.length * 128 ≤ reachBytes) (hwa : ∀ x ∈ a, StepWf x) (hna : StepsN w va a)
    (hvb : StepsR w vb b) (hlb : b.length * 128 ≤ reachBytes) (hwb : ∀ x ∈ b, StepWf x) (hnb : StepsN w vb b) (L : Ld w) : Calls Tryd.prog 9 #[va, vb] w (LawP w) := by
  obtain ⟨pa, hpa, PA⟩ := psR_of hva hna (fun x hx => (hwa x hx).op.data)
  obtain ⟨pb, hpb, PB⟩ := psR_of hvb hnb (fun x hx => (hwb x hx).op.data)
  have HVA := Lib.hid hva
  have HVB := Lib.hid hvb
  have HLA := Lib.hid hla
  have HLB := Lib.hid hlb
  have HWA := Lib.hid hwa
  have HWB := Lib.hid hwb
  have HPA := Lib.hid PA
  have HPB := Lib.hid PB
  have HEA := Lib.hid hpa
  have HEB := Lib.hid hpb
  have hla2 : pa.length = a.length := by rw [← hpa]; simp
  have hlb2 : pb.length = b.length := by rw [← hpb]; simp
  clear hva hvb hla hlb hwa hwb hna hnb PA PB hpa hpb
  go_enter Tryd.func9, Tryd.ntmps9
  go_wp2_with fail
  go_at_call 10
  refine (awake_any w L).mono ?_
  rintro e w1 ⟨rfl, hb1⟩
  have L1 := L.below hb1
  have HB1 := Lib.hid hb1
  have HVA1 := Lib.hid (HVA.out.below hb1)
  have HVB1 := Lib.hid (HVB.out.below hb1)
  have HPA1 := Lib.hid (HPA.out.below hb1)
  have HPB1 := Lib.hid (HPB.out.below hb1)
  clear hb1
  go_wp2_with fail
  go_at_call 15
  refine (few_in va a w1 HVA1.out HLA.out HWA.out).mono ?_
  rintro e w2 ⟨rfl, rfl⟩
  cases hfa : fewF a with
  | false =>
    go_wp2_with fail
    go_at_call 10
    refine (awake_any w1 L1).mono ?_
    rintro e w2 ⟨rfl, hb2⟩
    go_wp2
    go_ret
    exact ⟨rfl, HB1.out.trans (hb2.mono HB1.out.size)⟩
  | true =>
    go_wp2_with fail
    go_at_call 15
    refine (few_in vb b w1 HVB1.out HLB.out HWB.out).mono ?_
    rintro e w2 ⟨rfl, rfl⟩
    cases hfb : fewF b with
    | false =>
      go_wp2_with fail
      go_at_call 10
      refine (awake_any w1 L1).mono ?_
      rintro e w2 ⟨rfl, hb2⟩
      go_wp2
      go_ret
      exact ⟨rfl, HB1.out.trans (hb2.mono HB1.out.size)⟩
    | true =>
      obtain ⟨ha4, hoa⟩ := few_ok HWA.out hfa
      obtain ⟨hb4, hob⟩ := few_ok HWB.out hfb
      have HOA := Lib.hid hoa
      have HOB := Lib.hid hob
      have hxl := few_len hfa hoa
      have hyl := few_len hfb hob
      clear hfa hfb hoa hob
      go_wp2_with fail
      go_at_call 12
      refine (rprint_any va a w1 HVA1.out (by omega) HOA.out).mono ?_
      rintro e w2 ⟨hb2, he⟩
      have HB2 := Lib.hid (HB1.out.trans (hb2.mono HB1.out.size))
      have L2 := L1.below hb2
      have HVB2 := Lib.hid (HVB1.out.below hb2)
      have HPA2 := Lib.hid (HPA1.out.below hb2)
      have HPB2 := Lib.hid (HPB1.out.below hb2)
      clear hb2
      cases hra : Tx.refPrint a [] with
      | none =>
        rw [hra] at he
        obtain ⟨sa, rfl⟩ := he
        go_wp2_with fail
        go_at_call 12
        refine (rprint_any vb b w2 HVB2.out (by omega) HOB.out).mono ?_
        rintro e w3 ⟨hb3, he⟩
        have HB3 := Lib.hid (HB2.out.trans (hb3.mono HB2.out.size))
        clear hb3
        cases hrb : Tx.refPrint b [] with
        | none =>
          rw [hrb] at he
          obtain ⟨sb, rfl⟩ := he
          go_wp2
          go_ret
          exact ⟨rfl, HB3.out⟩
        | some y =>
          rw [hrb] at he
          subst he
          go_wp2
          go_ret
          exact ⟨rfl, HB3.out⟩
      | some x =>
        rw [hra] at he
        subst he
        go_wp2_with fail
        go_at_call 12
        refine (rprint_any vb b w2 HVB2.out (by omega) HOB.out).mono ?_
        rintro e w3 ⟨hb3, he⟩
        have HB3 := Lib.hid (HB2.out.trans (hb3.mono HB2.out.size))
        have L3 := L2.below hb3
        have HPA3 := Lib.hid (HPA2.out.below hb3)
        have HPB3 := Lib.hid (HPB2.out.below hb3)
        clear hb3
        cases hrb : Tx.refPrint b [] with
        | none =>
          rw [hrb] at he
          obtain ⟨sb, rfl⟩ := he
          go_wp2
          go_ret
          exact ⟨rfl, HB3.out⟩
        | some y =>
          rw [hrb] at he
          subst he
          obtain ⟨hx1, hx2⟩ := Tx.refPrint_some a [] x (fun z hz => stepOk (HOA.out z hz)) hra
          obtain ⟨hy1, hy2⟩ := Tx.refPrint_some b [] y (fun z hz => stepOk (HOB.out z hz)) hrb
          obtain rfl : x = printF a := hx1
          obtain rfl : y = printF b := hy1
          have hall : ∀ z ∈ a ++ b, Tx.PlainS z := fun z hz => by
            rcases List.mem_append.1 hz with hz | hz
            · exact Tx.plainS_of_ref (stepOk (HOA.out z hz)) (hx2 z hz)
            · exact Tx.plainS_of_ref (stepOk (HOB.out z hz)) (hy2 z hz)
          have HALL := Lib.hid hall
          have HOO : Hid (∀ z ∈ a ++ b, StepOk2 z) := Lib.hid (fun z hz => by
            rcases List.mem_append.1 hz with hz | hz
            · exact HOA.out z hz
            · exact HOB.out z hz)
          have HJ : Hid (printF a ++ printF b = printF (a ++ b)) := Lib.hid (Tx.printF_app a b).symm
          have HOW := Lib.hid (own_made0 (w := w3) (Nat.le_refl _))
          have HBW := Lib.hid (below_new w3 (.cells #[] 41))
          have HPAW := Lib.hid (HPA3.out.below HBW.out)
          have HPBW := Lib.hid (HPB3.out.below HBW.out)
          clear hx2 hy2 hall hra hrb
          go_wp2_with (first
            | (at_builtin
               refine wpList_append_ps rfl _ _ rfl w3.heap.size _ 0 [] rfl HOW.out va pa rfl HPAW.out (by omega) (by simp) ?_
               intro v1 W1 own1 hg1
               have HO1 := Lib.hid own1
               have HBB1 := Lib.hid (HBW.out.grown hg1 (by simp) (fun q hq => (HOW.out.lt q hq).1))
               have HPB4 := Lib.hid (HPB3.out.below HBB1.out)
               clear own1 hg1)
            | (at_builtin
               refine wpList_append_ps rfl _ _ rfl w3.heap.size v1 _ _ rfl HO1.out vb pb rfl HPB4.out (by omega) HBB1.out.size ?_
               intro v2 W2 own2 hg2
               have HO2 := Lib.hid own2
               have HBB2 := Lib.hid (HBB1.out.grown hg2 HBB1.out.size (fun q hq => (HO1.out.lt q hq).1))
               clear own2 hg2))
          have HPAB : Hid ((pa ++ pb).map (·.1) = a ++ b) := Lib.hid (by rw [List.map_append, HEA.out, HEB.out])
          have HS2 : Hid (StepsR W2 v2 (a ++ b)) := Lib.hid (by
            have h1 := steps_of_row (ps := pa ++ pb) (M.own_eq HO2.out rfl (by rw [rowCells_app]; rfl)) (by simp) (fun p hp => by
              rcases List.mem_append.1 hp with hp | hp
              · exact (HPA3.out.keeps p hp).below HBB2.out
              · exact (HPB3.out.keeps p hp).below HBB2.out) (fun p hp => by
              rcases List.mem_append.1 hp with hp | hp
              · exact HPA3.out.data p hp
              · exact HPB3.out.data p hp)
            rw [HPAB.out] at h1
            exact h1)
          have HB4 := Lib.hid (HB3.out.trans (HBB2.out.mono HB3.out.size))
          have L4 := L3.below HBB2.out
          have hpt : (⟨(printF (a ++ b)).toArray⟩ : ByteArray) = ⟨(printF a).toArray⟩ ++ ⟨(printF b).toArray⟩ := by rw [← HJ.out]; apply ByteArray.ext; simp
          have HPT := Lib.hid hpt
          clear hpt
          rw [← HPT.out]
          refine (parse_any (printF (a ++ b)) W2 (by rw [← HJ.out]; simp; omega) L4).mono ?_
          intro e w5 hP
          have hpp : parseA (printF (a ++ b)) = .ok (a ++ b) := Tx.parse_print HALL.out
          rw [hpp] at hP
          obtain ⟨hb5, v5, ps5, rfl, hps5, hout5⟩ := hP
          have hs5 := hout5.stepsR
          rw [hps5] at hs5
          have HS5 := Lib.hid hs5
          have HB5 := Lib.hid (HB4.out.trans (hb5.mono HB4.out.size))
          have L5 := L4.below hb5
          have HS25 := Lib.hid (HS2.out.below hb5)
          clear hb5 hs5 hout5 hpp
          go_wp2_with fail
          go_at_call 18
          refine (print_any v2 (a ++ b) w5 HS25.out (by simp; omega) HOO.out L5).mono ?_
          rintro e w6 ⟨rfl, hb6⟩
          rw [HPT.out]
          have HB6 := Lib.hid (HB5.out.trans (hb6.mono HB5.out.size))
          have HS6 := Lib.hid (HS5.out.below hb6)
          have HS26 := Lib.hid (HS25.out.below hb6)
          clear hb6
          go_wp2_with fail
          go_at_call 14
          refine (rsame_yes _ _ (a ++ b) w6 HS6.out HS26.out (by simp; omega) (fun x hx => (HOO.out x hx).op.data) (fun x hx => by have := (HOO.out x hx).few; omega)).mono ?_
          rintro e w7 ⟨rfl, hb7⟩
          go_wp2
          go_ret
          exact ⟨rfl, HB6.out.trans (hb7.mono HB6.out.size)⟩

end Go.Proofs.YtjjlmhlfobmpgaaDoor
