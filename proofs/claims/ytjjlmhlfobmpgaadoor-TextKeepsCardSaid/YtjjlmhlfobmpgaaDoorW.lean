/-
Walks: windrowlaw25.awake.
-/
import Derived.Test.YtjjlmhlfobmpgaaDoorV7
import Derived.Test.YtjjlmhlfobmpgaaDoorTq
namespace Go.Proofs.YtjjlmhlfobmpgaaDoor
open Go.RowKit

theorem parseA_eq (s : Tx.Bytes) : parseA s = Tx.parseA s := rfl

theorem own_keepR {w : World} {base : Nat} {ps : List (Tx.StepV × Value)} {v : Value} (h : OutR w base v ps) : ∀ p ∈ ps, KeepR w p.2 p.1.keep := fun p hp => keepR_of_own (h.keeps p hp)

theorem rowCells_at : ∀ (ps : List (Tx.StepV × Value)) (k : Nat) (p : Tx.StepV × Value), (∀ p ∈ ps, p.1.op.data.length = 32) → ps[k]? = some p → ∀ j v, (stepCells p.1 p.2)[j]? = some v → (rowCells ps)[k * 42 + j]? = some v
  | [], k, p, _, h, _, _, _ => by simp at h
  | q :: r, 0, p, hd, h, j, v, hj => by
    simp only [List.getElem?_cons_zero, Option.some.injEq] at h
    subst h
    show ((stepCells q.1 q.2) ++ rowCells r)[0 * 42 + j]? = _
    rw [Nat.zero_mul, Nat.zero_add, List.getElem?_append_left (List.getElem?_eq_some_iff.1 hj).1]
    exact hj
  | q :: r, k + 1, p, hd, h, j, v, hj => by
    have hl : (stepCells q.1 q.2).length = 42 := by simpa using stepCells_len (kv := q.2) (hd q (by simp))
    show ((stepCells q.1 q.2) ++ rowCells r)[(k + 1) * 42 + j]? = _
    rw [List.getElem?_append_right (by omega), hl, show (k + 1) * 42 + j - 42 = k * 42 + j by omega]
    exact rowCells_at r k p (fun x hx => hd x (List.mem_cons_of_mem _ hx)) (by simpa using h) j v hj

/-- What is read is a row of steps. -/
theorem OutR.stepsR {w : World} {base : Nat} {v : Value} {ps : List (Tx.StepV × Value)} (h : OutR w base v ps) : StepsR w v (ps.map (·.1)) := by
  rcases h.row.2 with ⟨rfl, hl⟩ | ⟨g, cap, cur, rfl, _⟩
  · exact ⟨none, 0, by simp [hl], fun hn => absurd (by simpa using hl) hn⟩
  · refine ⟨some ⟨g, 0, none⟩, cap, by simp, fun _ => ⟨g, 0, rfl, fun k x hx => ?_⟩⟩
    rw [List.getElem?_map] at hx
    cases hp : ps[k]? with
    | none => simp [hp] at hx
    | some p =>
      simp only [hp, Option.map_some, Option.some.injEq] at hx
      subst hx
      refine ⟨p.2, fun j v hj => ?_, own_keepR h p (List.mem_of_getElem? hp)⟩
      have := h.row.cells rfl (k * 42 + j) v (rowCells_at ps k p h.data hp j v hj)
      rw [Lib.add_plain] at this
      show w.cell? ⟨g, 0 + k * 42 + j, none⟩ = _
      rw [Nat.add_assoc]
      exact this

theorem OutR.below {w w' : World} {base : Nat} {v : Value} {ps : List (Tx.StepV × Value)} (h : OutR w base v ps) (hb : Below w.heap.size w w') : OutR w' base v ps :=
  ⟨M.own_below h.row hb, fun p hp => M.own_below (h.keeps p hp) hb, h.data⟩

section
variable {P : Program}
theorem wpList_load_midw {ops : Array Oper} {rest : List Oper} {o : Oper} {a : Act} {w : World} {Q : Exit → Act → World → Prop} (hgd : Region.wanted o (yielded ops a.tmps) = true) (ty : TypeId) (x : Operand) (ho : o.op = .load ty x)
    (b k : Nat) (hx : a.eval x = .pointer (some ⟨b, k, none⟩)) (cs : List Value) (d : TypeDesc) (hc : w.rangeAt b k cs)
    (hu : P.underlying ty = some d) (hd : d.isRow = true) (hi : (P.info? ty).map (·.size) = some cs.length)
    (h : wpList P ops Q rest (a.put o.dst (.agg cs.toArray)) w) : wpList P ops Q (o :: rest) a w := by
  unfold wpList
  rw [if_pos hgd]
  exact Or.inl (wp_load_mid ty x ho b k hx cs d hc hu hd hi h)

theorem wpList_binopw {ops : Array Oper} {rest : List Oper} {o : Oper} {a : Act} {w : World} {Q : Exit → Act → World → Prop} (hgd : Region.wanted o (yielded ops a.tmps) = true) (bop : BinOp) (t rt : TypeId) (x y : Operand) (ho : o.op = .binOp bop t x y rt)
    (u v r : Value) (hx : a.eval x = u) (hy : a.eval y = v) (hg : (eqGuard bop t x y u v).run P w = .ok () w) (hr : (binOp bop t u v).run P w = .ok r w)
    (h : wpList P ops Q rest (a.put o.dst r) w) : wpList P ops Q (o :: rest) a w := by
  unfold wpList
  rw [if_pos hgd]
  refine Or.inl ?_
  unfold Oper.wp execOp
  simp only [ho, hx, hy, hg, hr, Sem.run_bind, Sem.run_pure, Result.andThen_ok]
  exact h
end

theorem as4_ok2 : StepOk2 Tx.as4 := by
  have h : OpOk Tx.op0 := ⟨by unfold I64; decide, by unfold I64; decide, by unfold I64; decide, by unfold I64; decide, by decide⟩
  refine ⟨h, by unfold I64; decide, by unfold I64; decide, by decide, ?_, by decide⟩
  intro v hv
  have : v = 1 ∨ v = 2 := by simpa [Tx.as4] using hv
  unfold I64
  omega

theorem as4_plain : Tx.plainF Tx.as4 = true := by
  have h := Tx.as_ok Tx.as4 (by simp)
  rw [Tx.plain_eq h.ok, h.ref]; rfl

theorem ps_four {ps : List (Tx.StepV × Value)} (h : ps.map (·.1) = [Tx.as1, Tx.as2, Tx.as3, Tx.as4]) : ∃ k1 k2 k3 k4, ps = [(Tx.as1, k1), (Tx.as2, k2), (Tx.as3, k3), (Tx.as4, k4)] := by
  rcases ps with _ | ⟨⟨x1, k1⟩, _ | ⟨⟨x2, k2⟩, _ | ⟨⟨x3, k3⟩, _ | ⟨⟨x4, k4⟩, _ | ⟨p5, r⟩⟩⟩⟩⟩ <;> simp only [List.map_cons, List.map_nil, List.cons.injEq, reduceCtorEq, and_true, and_false] at h
  obtain ⟨rfl, rfl, rfl, rfl⟩ := h
  exact ⟨_, _, _, _, rfl⟩

/-- What awake reads of its first text's steps. -/
theorem aw_cells {w : World} {base : Nat} {v : Value} {ps : List (Tx.StepV × Value)} (h : OutR w base v ps) (hp : ps.map (·.1) = [Tx.as1, Tx.as2, Tx.as3, Tx.as4]) :
    ∃ g cap p q, v = .slice (some ⟨g, 0, none⟩) 4 cap ∧ w.rangeAt g 0 (opCells Tx.as1.op) ∧ w.cell? ⟨g, 77, none⟩ = some (.bool true) ∧ w.cell? ⟨g, 121, none⟩ = some (.int .i64 2) ∧ w.cell? ⟨g, 164, none⟩ = some (.bool true) ∧
      w.cell? ⟨g, 165, none⟩ = some (.slice p 2 q) ∧ w.cell? ⟨g, 166, none⟩ = some (.int .u64 5) ∧ w.rangeAt g 126 (stepCells Tx.as4 (.slice p 2 q)) ∧ KeepR w (.slice p 2 q) Tx.as4.keep := by
  obtain ⟨k1, k2, k3, k4, rfl⟩ := ps_four hp
  rcases h.row.2 with ⟨rfl, hl⟩ | ⟨g, cap, cur, rfl, _⟩
  · simp at hl
  · have hk4 := own_keepR h (Tx.as4, k4) (by simp)
    have hk4' := hk4
    obtain ⟨p, q, hkk, _⟩ := hk4
    have hkk' : k4 = .slice p 2 q := hkk
    clear hkk
    subst hkk'
    have at_ : ∀ (k : Nat) (x : Tx.StepV) (kv : Value), [(Tx.as1, k1), (Tx.as2, k2), (Tx.as3, k3), (Tx.as4, Value.slice p 2 q)][k]? = some (x, kv) → ∀ j u, (stepCells x kv)[j]? = some u → w.cell? ⟨g, k * 42 + j, none⟩ = some u := fun k x kv hk j u hj => by
      have := h.row.cells rfl (k * 42 + j) u (rowCells_at _ k (x, kv) h.data hk j u hj)
      rw [Lib.add_plain] at this
      simpa using this
    refine ⟨g, cap, p, q, rfl, fun j u hj => ?_, ?_, ?_, ?_, ?_, ?_, fun j u hj => ?_, hk4'⟩
    · have := at_ 0 _ _ rfl j u (by
        unfold stepCells
        rw [List.getElem?_append_left (List.getElem?_eq_some_iff.1 hj).1]
        exact hj)
      simpa using this
    · exact at_ 1 _ _ rfl 35 _ rfl
    · exact at_ 2 _ _ rfl 37 _ rfl
    · exact at_ 3 _ _ rfl 38 _ rfl
    · exact at_ 3 _ _ rfl 39 _ rfl
    · exact at_ 3 _ _ rfl 40 _ rfl
    · exact at_ 3 _ _ rfl j u hj

set_option maxHeartbeats 4000000 in
set_option maxRecDepth 100000 in
/-- windrowlaw25.awake. -/
theorem awake_any (w : World) (L : Ld w) : Calls Tryd.prog 10 #[] w fun e w' => e = .returned (.bool true) ∧ Below w.heap.size w w' := by
  go_enter Tryd.func10, Tryd.ntmps10
  go_wp2_with fail
  go_at_call 11
  refine (parse_any Tx.aw1 w (by decide) L).mono ?_
  intro e w1 hP
  rw [parseA_eq, Tx.aw1_ok] at hP
  obtain ⟨hb1, v, ps, rfl, hps, hout⟩ := hP
  have L1 := L.below hb1
  have HB1 := Lib.hid hb1
  have HOUT := Lib.hid hout
  have HPS := Lib.hid hps
  clear hb1 hout hps
  go_wp2_with fail
  go_at_call 11
  refine (parse_any Tx.aw2 w1 (by decide) L1).mono ?_
  intro e w2 hP
  rw [parseA_eq, Tx.aw2_no] at hP
  obtain ⟨hb2, rfl⟩ := hP
  have L2 := L1.below hb2
  obtain ⟨g, cap, p, q, rfl, r1, c2, c3, c4, c6, c5, r4, k4⟩ := aw_cells (HOUT.out.below hb2) HPS.out
  have HB2 := Lib.hid (HB1.out.trans (hb2.mono HB1.out.size))
  have HR1 := Lib.hid r1
  have HR4 := Lib.hid r4
  have HK4 := Lib.hid k4
  have HEQ : Hid (∀ w', (binOp .eql 35 (.agg (opCells Tx.as1.op).toArray) (.agg (opCells Tx.as1.op).toArray)).run Tryd.prog w' = .ok (.bool true) w') := Lib.hid (fun w' => by
    rw [run_eq_op Tx.as1.op Tx.as1.op rfl rfl, (Tx.opEq_iff _ _).2 rfl])
  have HI35 : Hid ((Tryd.prog.info? 35).map (·.size) = some (opCells Tx.as1.op).length) := Lib.hid (info35.trans (by rw [opCells_len rfl]))
  have HI41 : Hid ((Tryd.prog.info? 41).map (·.size) = some (stepCells Tx.as4 (.slice p 2 q)).length) := Lib.hid (info41.trans (congrArg some ((stepCells_len (x := Tx.as4) (kv := .slice p 2 q) rfl).symm.trans (by simp))))
  clear hb2 r1 r4 k4
  go_upto_region 3 with fail
  simp only [List.append]
  go_wp2_with (first
    | ((with_reducible show wpList _ _ _ ({ dst := _, op := Op.load 35 _, type := _, pos := _, after := _, guard := _ } :: _) _ _); refine wpList_load_midw rfl 35 _ rfl g 0 rfl (opCells Tx.as1.op) _ HR1.out Tryd.underlying35 rfl HI35.out ?_)
    | ((with_reducible show wpList _ _ _ ({ dst := _, op := Op.load 41 _, type := _, pos := _, after := _, guard := _ } :: _) _ _); refine wpList_load_midw rfl 41 _ rfl g 126 rfl (stepCells Tx.as4 (.slice p 2 q)) _ HR4.out Tryd.underlying41 rfl HI41.out ?_)
    | ((with_reducible show wpList _ _ _ ({ dst := _, op := Op.binOp .eql 35 _ _ _, type := _, pos := _, after := _, guard := _ } :: _) _ _); refine wpList_binopw rfl .eql 35 35 _ _ rfl (.agg (opCells Tx.as1.op).toArray) (.agg (opCells Tx.as1.op).toArray) _ rfl rfl (run_eqGuard_agg _ _ _ _ _ _ _ guard35) (HEQ.out _) ?_)
    | (go_at_call 17; refine (plain_any Tx.as4 (.slice p 2 q) _ as4_ok2 L2 HK4.out).mono ?_; rintro e w3 ⟨rfl, hb3⟩; rw [as4_plain]))
  go_ret
  exact ⟨rfl, HB2.out.trans (hb3.mono HB2.out.size)⟩

end Go.Proofs.YtjjlmhlfobmpgaaDoor
