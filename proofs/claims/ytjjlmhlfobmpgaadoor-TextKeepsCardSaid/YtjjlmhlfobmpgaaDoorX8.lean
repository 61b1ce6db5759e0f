/-
Walks: windrowlaw25.TextKeeps.
-/
import Derived.Test.YtjjlmhlfobmpgaaDoorX7
namespace Go.Proofs.YtjjlmhlfobmpgaaDoor
open Go.RowKit

theorem own_slice {w : World} {base : Nat} {e : TypeId} {size : Nat} {v : Value} {n : Nat} {xs : List Value} (h : w.ownsRow base e size v n xs) : ∃ a c, v = .slice a n c := by
  rcases h.2 with ⟨rfl, rfl⟩ | ⟨g, cap, cur, rfl, _⟩
  · exact ⟨none, 0, rfl⟩
  · exact ⟨_, cap, rfl⟩

/-- While what comes in is copied. -/
structure KInv (w1 wr : World) (l : List Tx.StepV) (v5 : Value) (kvs : List Value) : Prop where
  below : Below w1.heap.size w1 wr
  row : wr.ownsRow w1.heap.size 36 1 v5 kvs.length kvs
  keeps : ∀ (j : Nat) (kv : Value) (x : Tx.StepV), kvs[j]? = some kv → l[j]? = some x → wr.ownsRow w1.heap.size 3 1 kv x.keep.length (x.keep.map (.int .i64))

theorem KInv.later {w1 wr w' : World} {l : List Tx.StepV} {v5 : Value} {kvs : List Value} (h : KInv w1 wr l v5 kvs) (hb : Below wr.heap.size wr w') : KInv w1 w' l v5 kvs :=
  ⟨h.below.trans (hb.mono h.below.size), M.own_below h.row hb, fun j kv x h1 h2 => M.own_below (h.keeps j kv x h1 h2) hb⟩

theorem KInv.push {w1 wr wo w' : World} {l : List Tx.StepV} {v5 v' v1 : Value} {kvs : List Value} {x : Tx.StepV} (h : KInv w1 wr l v5 kvs) (hx : l[kvs.length]? = some x) (hown : w'.ownsRow w1.heap.size 36 1 v' (kvs.length + 1) (kvs ++ [v1]))
    (hg : wr.grownBy w' v5.ownBlock) (h1 : wr.ownsRow wo.heap.size 3 1 v1 x.keep.length (x.keep.map (.int .i64))) (hwo : w1.heap.size ≤ wo.heap.size) : KInv w1 w' l v' (kvs ++ [v1]) := by
  refine ⟨h.below.grown hg h.below.size (fun q hq => (h.row.lt q hq).1), by simpa using hown, fun j kv y hj hy => ?_⟩
  by_cases hjk : j < kvs.length
  · rw [List.getElem?_append_left hjk] at hj
    have := h.keeps j kv y hj hy
    exact this.kept hg (own_apart this h.row (by decide))
  · rw [List.getElem?_append_right (by omega)] at hj
    have hj0 : j - kvs.length = 0 := by
      have := (List.getElem?_eq_some_iff.1 hj).1
      simp at this
      omega
    rw [hj0] at hj
    simp only [List.getElem?_cons_zero, Option.some.injEq] at hj
    subst hj
    have hje : j = kvs.length := by omega
    subst hje
    rw [hx] at hy
    cases hy
    have h2 := M.own_base h1 hwo
    exact h2.kept hg (own_apart h2 h.row (by decide))

theorem kv_at {w1 wr : World} {l : List Tx.StepV} {v5 : Value} {kvs : List Value} (h : KInv w1 wr l v5 kvs) (j : Nat) (kv : Value) (hj : kvs[j]? = some kv) : ∃ g c, v5 = .slice (some ⟨g, 0, none⟩) kvs.length c ∧ wr.cell? ⟨g, j, none⟩ = some kv := by
  rcases h.row.2 with ⟨_, e2⟩ | ⟨g, cap, cur, e1, _⟩
  · have := (List.getElem?_eq_some_iff.1 hj).1
    omega
  · refine ⟨g, cap, e1, ?_⟩
    have := h.row.cells (g := g) (by rw [e1]; rfl) j kv hj
    rw [Lib.add_plain] at this
    simpa using this

theorem int_at {w : World} {base : Nat} {kv : Value} {l : List Int} (h : w.ownsRow base 3 1 kv l.length (l.map (.int .i64))) (j : Nat) (n : Int) (hj : l[j]? = some n) : ∃ g c, kv = .slice (some ⟨g, 0, none⟩) l.length c ∧ w.cell? ⟨g, j, none⟩ = some (.int .i64 n) := by
  rcases h.2 with ⟨_, e2⟩ | ⟨g, cap, cur, e1, _⟩
  · have := (List.getElem?_eq_some_iff.1 hj).1
    omega
  · refine ⟨g, cap, e1, ?_⟩
    have := h.cells (g := g) (by rw [e1]; rfl) j (.int .i64 n) (by rw [List.getElem?_map, hj]; rfl)
    rw [Lib.add_plain] at this
    simpa using this

/-- One list more, behind the call's own lists. -/
theorem wpList_append_kv {w : World} {ops : Array Oper} {rest : List Oper} {o : Oper} {a : Act} {Q : Exit → Act → World → Prop} (hgd : o.guard = none) (s x : Operand)
    (ho : o.op = .call { callee := .builtin .append, args := #[s, x], argTypes := #[46, 46] }) (base : Nat) (v : Value) (n : Nat) (kvs : List Value) (hs : a.eval s = v) (hown : w.ownsRow base 36 1 v n kvs)
    (g : Nat) (kv : Value) (hx : a.eval x = .slice (some ⟨g, 0, none⟩) 1 1) (hg : w.heap[g]? = some (.cells #[kv] 36 (0, 0))) (h1 : kv.oneCell' = true) (hn : n ≤ 10000) (hbase : base ≤ w.heap.size)
    (h : ∀ v' w', w'.ownsRow base 36 1 v' (n + 1) (kvs ++ [kv]) → w.grownBy w' v.ownBlock → wpList Tryd.prog ops Q rest (a.put o.dst v') w') : wpList Tryd.prog ops Q (o :: rest) a w := by
  obtain ⟨j0, hj0, hjz0, hjz1, hjz2⟩ := info_parts info36z
  refine wpList_append_own _ hgd s x 46 ho base 36 j0 _ 1 24 Tryd.underlying46 hj0 hjz0 hjz1 hjz2 rfl (by decide) v n kvs hs hown ⟨g, 0, none⟩ 1 1 [kv] hx (by simp) ?_ ?_ (by unfold maxLen; omega) (by omega) hbase ?_
  · intro j u hu
    rw [Lib.add_plain, cell_of_row w _ _ _ _ _ hg]
    simpa using hu
  · intro u hu
    rw [List.mem_singleton.1 hu]
    exact h1
  · intro v' w' h2 h3 _
    exact h v' w' h2 h3

set_option maxHeartbeats 8000000 in
set_option maxRecDepth 100000 in
/-- TextKeeps. -/
theorem keeps_walk (v : Value) (l : List Tx.StepV) (s : Tx.Bytes) (w : World) (hv : StepsR w v l) (hl : l.length * 128 ≤ reachBytes) (hw : ∀ x ∈ l, StepWf x) (hn : StepsN w v l) (hs : s.length ≤ reachBytes) (L : Ld w) :
    Calls Tryd.prog 8 #[v, .string ⟨s.toArray⟩] w (LawP w) := by
  rw [reach_val] at hs
  have HV := Lib.hid hv
  have HL := Lib.hid hl
  have HW := Lib.hid hw
  have HN := Lib.hid hn
  clear hl hw hn
  go_enter Tryd.func8, Tryd.ntmps8
  go_wp2_with fail
  go_at_call 10
  refine (awake_any w L).mono ?_
  rintro e w1 ⟨rfl, hb1⟩
  have L1 := L.below hb1
  have HB1 := Lib.hid hb1
  have HV1 := Lib.hid (HV.out.below hb1)
  clear hb1
  go_wp2_with fail
  go_at_call 15
  refine (few_in v l w1 HV1.out HL.out HW.out).mono ?_
  rintro e w2 ⟨rfl, rfl⟩
  cases hf : fewF l with
  | false =>
    go_wp2_with fail
    go_at_call 10
    refine (awake_any w1 L1).mono ?_
    rintro e w2 ⟨rfl, hb2⟩
    go_wp2
    go_ret
    exact ⟨rfl, HB1.out.trans (hb2.mono HB1.out.size)⟩
  | true =>
    by_cases h3 : s.length ≤ 3000
    · have h3' : ¬ (3000 : Int) < (s.length : Int) := by omega
      obtain ⟨hl4, ho⟩ := few_ok HW.out hf
      have HO := Lib.hid ho
      have HF := Lib.hid hf
      clear ho hf
      obtain ⟨a, c, rfl, -⟩ := hv
      go_wp2
      go_loopw [5, 6] (fun v5 i wr => ∃ kvs : List Value, kvs.length ≤ l.length ∧ i = .int .i64 kvs.length ∧ KInv w1 wr l v5 kvs) (fun _ i _ => l.length - (intOf i).toNat)
      case atStart => exact ⟨[], Nat.zero_le _, rfl, ⟨Below.refl _ _, World.ownsRow_nil _ _ _ _, by simp⟩⟩
      case round =>
        obtain ⟨kvs, hk, rfl, hinv⟩ := hrel
        have HI := Lib.hid hinv
        clear hinv
        by_cases hlt : kvs.length < l.length
        · obtain ⟨x, hx⟩ : ∃ x, l[kvs.length]? = some x := ⟨_, List.getElem?_eq_getElem hlt⟩
          obtain ⟨b, o, c', kv, hve, hr, hkr, hsn⟩ := HN.out.2 kvs.length x hx
          injection hve with hve1 hve2 hve3
          subst hve1
          have hbw : Below w.heap.size w wr := HB1.out.trans (HI.out.below.mono HB1.out.size)
          have hd := (HO.out x (List.mem_of_getElem? hx)).op.data
          have hcell0 := rangeAt_below hr hbw 39 _ (stepCells_at hd).2.2.2.1
          have hcell : (wr.alloc (.cells #[] 3)).cell? ⟨b, o + kvs.length * 42 + 39, none⟩ = some kv := ((below_new wr (.cells #[] 3)).cell (World.block_lt_of_cell? _ _ hcell0)).trans hcell0
          have HKA := Lib.hid ((hkr.below hbw).below (below_new wr (.cells #[] 3)))
          have hkl := (HO.out x (List.mem_of_getElem? hx)).few
          have HSN := Lib.hid hsn
          have HX := Lib.hid hx
          have HOW := Lib.hid (own_made3 wr)
          have hlt2 : (kvs.length : Int) < (l.length : Int) := by omega
          clear hve2 hve3 hr hkr hbw hd hsn hx hcell0
          go_wp2_with (first
            | (at_builtin
               refine wpList_append_keep rfl _ _ rfl wr.heap.size _ rfl HOW.out kv x.keep rfl HKA.out HSN.out (by omega) (by simp) ?_
               intro v1 W1 own1 hg1
               obtain ⟨q1, c1, rfl⟩ := own_slice own1
               have HO1 := Lib.hid own1
               have HA1 := Lib.hid ((below_new wr (.cells #[] 3)).grown hg1 (by simp) (fun q hq => (HOW.out.lt q hq).1))
               have HI2 := Lib.hid ((HI.out.later HA1.out).later (below_new W1 (.cells #[.slice q1 x.keep.length c1] 36)))
               have HO2 := Lib.hid (HO1.out.alloc (.cells #[.slice q1 x.keep.length c1] 36))
               clear own1 hg1)
            | (at_builtin
               refine wpList_append_kv rfl _ _ rfl w1.heap.size u5 kvs.length kvs rfl HI2.out.row W1.heap.size (.slice q1 x.keep.length c1) rfl (heap_alloc_new _ _) rfl (by omega) HI2.out.below.size ?_
               intro v2 W2 own2 hg2
               have HI3 := Lib.hid (HI2.out.push HX.out own2 hg2 HO2.out HI.out.below.size)
               clear own2 hg2))
          refine ⟨⟨kvs ++ [.slice q1 x.keep.length c1], by simp; omega, by simp, HI3.out⟩, ?_⟩
          simp [intOf]; omega
        · have hke : kvs.length = l.length := by omega
          have hlt2 : ¬ (kvs.length : Int) < (l.length : Int) := by omega
          have LX := L1.below HI.out.below
          have HVX := Lib.hid (HV1.out.below HI.out.below)
          go_wp2_with fail
          go_at_call 18
          refine (print_any _ l wr HVX.out (by omega) HO.out LX).mono ?_
          rintro e w2 ⟨rfl, hb2⟩
          have L2 := LX.below hb2
          have HV2 := Lib.hid (HVX.out.below hb2)
          have HI2 := Lib.hid (HI.out.later hb2)
          clear hb2
          go_wp2_with fail
          go_at_call 11
          refine (parse_any2 s w2 h3 L2).mono ?_
          rintro e w3 ⟨hb3, va, psa, na, ea, rfl, hoa, hla, hfa⟩
          have L3 := L2.below hb3
          have HB3 := Lib.hid hb3
          have HOA := Lib.hid hoa
          have HFA := Lib.hid hfa
          clear hb3 hoa hfa
          go_wp2_with fail
          go_at_call 11
          refine (parse_any2 s w3 h3 L3).mono ?_
          rintro e w4 ⟨hb4, vb, psb, nb, eb, rfl, hob, hlb, hfb⟩
          have HOB := Lib.hid hob
          have HFB := Lib.hid hfb
          have HAI : Hid (AInv w2 w3 w4 w4 va psa) := Lib.hid ⟨HB3.out.trans (hb4.mono HB3.out.size), fun _ _ => rfl, Nat.le_refl _, M.own_below HOA.out.row hb4, intRow_of (HOA.out.below hb4)⟩
          clear hob hfb hb4
          obtain ⟨ad, ca, rfl⟩ := own_slice HOA.out.row
          obtain ⟨bd, cb, rfl⟩ := own_slice HOB.out.row
          obtain ⟨kd, kc, rfl⟩ := own_slice HI.out.row
          go_wp2
          go_loopw [13, 14] (fun i _ wr => ∃ j : Nat, j ≤ psa.length ∧ i = .int .i64 j ∧ AInv w2 w3 w4 wr (.slice ad psa.length ca) psa) (fun i _ _ => psa.length - (intOf i).toNat)
          case atStart => exact ⟨0, Nat.zero_le _, rfl, HAI.out⟩
          case round =>
            obtain ⟨j, hj, rfl, hai⟩ := hrel
            have HI5 := Lib.hid hai
            clear hai
            by_cases hjl : j < psa.length
            · obtain ⟨p, hp⟩ : ∃ p, psa[j]? = some p := ⟨_, List.getElem?_eq_getElem hjl⟩
              have hpm := List.mem_of_getElem? hp
              obtain ⟨ak, ck, hpk⟩ := own_slice (HOA.out.keeps p hpm)
              obtain ⟨ga, cA, hva, -⟩ := row_keep HI5.out.row HOA.out.data j p hp
              injection hva with hva1 hva2 hva3
              subst hva1
              have hat : ∀ wx, AInv w2 w3 w4 wx (.slice (some ⟨ga, 0, none⟩) psa.length ca) psa → wx.cell? ⟨ga, j * 42 + 39, none⟩ = some (.slice ak p.1.keep.length ck) := fun wx hx => by
                obtain ⟨g2, c2, he, hc⟩ := row_keep hx.row HOA.out.data j p hp
                injection he with he1 _ _
                injection he1 with he1
                injection he1 with he1 _ _
                rw [he1, hc, hpk]
              have HAT := Lib.hid hat
              have hkl := (HFA.out p hpm).1
              have hjl2 : (j : Int) < (psa.length : Int) := by omega
              clear hat hp hva2 hva3
              obtain ⟨wo, rfl⟩ : ∃ wo : World, wo = wr := ⟨_, rfl⟩
              go_wp2
              go_loopw [14] (fun i wi => ∃ q : Nat, q ≤ p.1.keep.length ∧ i = .int .i64 q ∧ AInv w2 w3 w4 wi (.slice (some ⟨ga, 0, none⟩) psa.length ca) psa) (fun i _ => p.1.keep.length - (intOf i).toNat)
              case atStart => exact ⟨0, Nat.zero_le _, rfl, HI5.out⟩
              case round =>
                obtain ⟨q, hq, rfl, hai⟩ := hrel
                have HI6 := Lib.hid hai
                have hcell := HAT.out wr hai
                by_cases hql : q < p.1.keep.length
                · have hint := hai.ints p hpm
                  rw [hpk] at hint
                  obtain ⟨gk, ck2, hke, hgb, hglt, ⟨z, hz⟩, hfz, hcur⟩ := hint.get q hql
                  injection hke with hke1 _ _
                  subst hke1
                  have hg3 : gk < w3.heap.size := ((HOA.out.keeps p hpm).lt gk (by rw [hpk]; rfl)).2
                  have HS := Lib.hid (hai.set (j := q) hgb hg3 hcur (-7))
                  have hql2 : (q : Int) < (p.1.keep.length : Int) := by omega
                  clear hint hai hcur hgb hglt hg3
                  go_wp2
                  go_roundw
                  case rel => exact ⟨q + 1, by omega, by go_num, HS.out⟩
                  case measure => simp [intOf]; omega
                · have hql2 : ¬ (q : Int) < (p.1.keep.length : Int) := by omega
                  clear hai
                  go_wp2
                  go_roundw
                  case rel => exact ⟨j + 1, by omega, by go_num, HI6.out⟩
                  case measure => simp [intOf]; omega
            · have hjl2 : ¬ (j : Int) < (psa.length : Int) := by omega
              obtain ⟨w5, rfl⟩ : ∃ w5 : World, w5 = wr := ⟨_, rfl⟩
              have HOB5 := Lib.hid (HOB.out.same (fun b hb => HI5.out.new b hb))
              have HI7 := Lib.hid (HI2.out.later HI5.out.old)
              go_wp2
              go_loopw [15, 16] (fun i _ wr => ∃ j : Nat, j ≤ psb.length ∧ i = .int .i64 j ∧ wr = w5) (fun i _ _ => psb.length - (intOf i).toNat)
              case atStart => exact ⟨0, Nat.zero_le _, rfl, rfl⟩
              case round =>
                obtain ⟨j, hj, rfl, rfl⟩ := hrel
                obtain ⟨w5, rfl⟩ : ∃ w5 : World, w5 = wr := ⟨_, rfl⟩
                by_cases hjl : j < psb.length
                · obtain ⟨p, hp⟩ : ∃ p, psb[j]? = some p := ⟨_, List.getElem?_eq_getElem hjl⟩
                  have hpm := List.mem_of_getElem? hp
                  obtain ⟨ak, ck, hpk⟩ := own_slice (HOB5.out.keeps p hpm)
                  obtain ⟨gb, cB, hvb, hcell⟩ := row_keep HOB5.out.row HOB5.out.data j p hp
                  injection hvb with hvb1 hvb2 hvb3
                  subst hvb1
                  rw [hpk] at hcell
                  have hkl := (HFB.out p hpm).1
                  have hjl3 : (j : Int) < (psb.length : Int) := by omega
                  have hown := HOB5.out.keeps p hpm
                  rw [hpk] at hown
                  have HOWN := Lib.hid hown
                  clear hp hvb2 hvb3 hown hjl2
                  go_wp2
                  go_loopw [16] (fun i wi => ∃ q : Nat, q ≤ p.1.keep.length ∧ i = .int .i64 q ∧ wi = w5) (fun i _ => p.1.keep.length - (intOf i).toNat)
                  case atStart => exact ⟨0, Nat.zero_le _, rfl, rfl⟩
                  case round =>
                    obtain ⟨q, hq, rfl, rfl⟩ := hrel
                    by_cases hql : q < p.1.keep.length
                    · obtain ⟨n, hn⟩ : ∃ n, p.1.keep[q]? = some n := ⟨_, List.getElem?_eq_getElem hql⟩
                      have hnn := (HFB.out p hpm).2 n (List.mem_of_getElem? hn)
                      obtain ⟨gk, ck2, hke, hz⟩ := int_at HOWN.out q n hn
                      injection hke with hke1 _ _
                      subst hke1
                      have hneg : ¬ n < 0 := by omega
                      have hql2 : (q : Int) < (p.1.keep.length : Int) := by omega
                      clear hn hnn
                      go_wp2
                      go_roundw
                      case rel => exact ⟨q + 1, by omega, by go_num, by first | trivial | rfl⟩
                      case measure => simp [intOf]; omega
                    · have hql2 : ¬ (q : Int) < (p.1.keep.length : Int) := by omega
                      go_wp2
                      go_roundw
                      case rel => exact ⟨j + 1, by omega, by go_num, by first | trivial | rfl⟩
                      case measure => simp [intOf]; omega
                · have hjl3 : ¬ (j : Int) < (psb.length : Int) := by omega
                  clear hjl2
                  go_wp2
                  go_loopw [17, 18] (fun i _ wr => ∃ j : Nat, j ≤ l.length ∧ i = .int .i64 j ∧ Below w5.heap.size w5 wr) (fun i _ _ => l.length - (intOf i).toNat)
                  case atStart => exact ⟨0, Nat.zero_le _, rfl, Below.refl _ _⟩
                  case round =>
                    obtain ⟨j, hj, rfl, hb⟩ := hrel
                    have HB6 := Lib.hid hb
                    clear hb
                    by_cases hjl : j < l.length
                    · obtain ⟨x, hx⟩ : ∃ x, l[j]? = some x := ⟨_, List.getElem?_eq_getElem hjl⟩
                      obtain ⟨kv, hkv⟩ : ∃ kv, kvs[j]? = some kv := ⟨_, List.getElem?_eq_getElem (by omega)⟩
                      obtain ⟨b, o, c', kl, hve, hr, hkr, -⟩ := HN.out.2 j x hx
                      injection hve with hve1 hve2 hve3
                      subst hve1
                      have hkl := (HO.out x (List.mem_of_getElem? hx)).few
                      have hd := (HO.out x (List.mem_of_getElem? hx)).op.data
                      have hbw5 : Below w.heap.size w w5 := HB1.out.trans (HI7.out.below.mono HB1.out.size)
                      have HKR := Lib.hid (hkr.below hbw5)
                      have hcl5 := rangeAt_below hr hbw5 39 _ (stepCells_at hd).2.2.2.1
                      obtain ⟨p3, c3, rfl, hkc⟩ := HKR.out
                      have HKC := Lib.hid hkc
                      have HOWN := Lib.hid (HI7.out.keeps j kv x hkv hx)
                      obtain ⟨g5, c5, he5, hc5⟩ := kv_at HI7.out j kv hkv
                      injection he5 with he51 he52 he53
                      subst he51
                      obtain ⟨ak, ck, rfl⟩ := own_slice HOWN.out
                      have HCL : Hid (∀ wx, Below w5.heap.size w5 wx → wx.cell? ⟨b, o + j * 42 + 39, none⟩ = some (.slice p3 x.keep.length c3)) := Lib.hid (fun wx hx => (hx.cell (World.block_lt_of_cell? _ _ hcl5)).trans hcl5)
                      have HC5 : Hid (∀ wx, Below w5.heap.size w5 wx → wx.cell? ⟨g5, j, none⟩ = some (.slice ak x.keep.length ck)) := Lib.hid (fun wx hx => (hx.cell (World.block_lt_of_cell? _ _ hc5)).trans hc5)
                      have hjl4 : (j : Int) < (l.length : Int) := by omega
                      have hkj : (j : Int) < (kvs.length : Int) := by omega
                      clear hx hkv hve2 hve3 hr hkr hd hbw5 hcl5 hkc he52 he53 hc5
                      obtain ⟨wo, rfl⟩ : ∃ wo : World, wo = wr := ⟨_, rfl⟩
                      go_wp2
                      go_loopw [18] (fun i wi => ∃ q : Nat, q ≤ x.keep.length ∧ i = .int .i64 q ∧ Below w5.heap.size w5 wi) (fun i _ => x.keep.length - (intOf i).toNat)
                      case atStart => exact ⟨0, Nat.zero_le _, rfl, HB6.out⟩
                      case round =>
                        obtain ⟨q, hq, rfl, hb⟩ := hrel
                        have HB7 := Lib.hid hb
                        have n1 := HCL.out wr hb
                        have n2 := HC5.out wr hb
                        by_cases hql : q < x.keep.length
                        · obtain ⟨n, hn⟩ : ∃ n, x.keep[q]? = some n := ⟨_, List.getElem?_eq_getElem hql⟩
                          obtain ⟨g1, r1, rfl, hc1⟩ := HKC.out (by intro e; rw [e] at hql; simp at hql)
                          obtain ⟨gk, ck2, hke, hz⟩ := int_at HOWN.out q n hn
                          injection hke with hke1 _ _
                          subst hke1
                          have m1 : wr.cell? ⟨g1, r1 + q, none⟩ = some (.int .i64 n) := (hb.cell (p := ⟨g1, r1 + q, none⟩) (World.block_lt_of_cell? _ _ (hc1 q n hn))).trans (hc1 q n hn)
                          have m2 : wr.cell? ⟨gk, q, none⟩ = some (.int .i64 n) := (hb.cell (p := ⟨gk, q, none⟩) (World.block_lt_of_cell? _ _ hz)).trans hz
                          have hql2 : (q : Int) < (x.keep.length : Int) := by omega
                          clear hn hc1 hz hb
                          go_wp2
                          go_quiet (fail)
                          go_wp2
                          go_roundw
                          case rel => exact ⟨q + 1, by omega, by go_num, HB7.out.trans (below_drewN _ _ _)⟩
                          case measure => simp [intOf]; omega
                        · have hql2 : ¬ (q : Int) < (x.keep.length : Int) := by omega
                          clear hb
                          go_wp2
                          go_roundw
                          case rel => exact ⟨j + 1, by omega, by go_num, HB7.out⟩
                          case measure => simp [intOf]; omega
                    · have hjl4 : ¬ (j : Int) < (l.length : Int) := by omega
                      go_wp2
                      go_ret
                      exact ⟨rfl, (HB1.out.trans (HI7.out.below.mono HB1.out.size)).trans (HB6.out.mono (by have := HI7.out.below.size; have := HB1.out.size; omega))⟩
    · have h3' : (3000 : Int) < (s.length : Int) := by omega
      go_wp2_with fail
      go_at_call 10
      refine (awake_any w1 L1).mono ?_
      rintro e w2 ⟨rfl, hb2⟩
      go_wp2
      go_ret
      exact ⟨rfl, HB1.out.trans (hb2.mono HB1.out.size)⟩

end Go.Proofs.YtjjlmhlfobmpgaaDoor
