/-
What TextKeeps' walk holds of memory: lists of the call's own, whatever is written into them.
-/
import Derived.Test.YtjjlmhlfobmpgaaDoorX6
namespace Go.Proofs.YtjjlmhlfobmpgaaDoor
open Go.RowKit

/-- A list of the call's own: whatever integers. -/
def IntRow (w : World) (base : Nat) (kv : Value) (n : Nat) : Prop := ∃ xs : List Int, xs.length = n ∧ w.ownsRow base 3 1 kv n (xs.map (.int .i64))

theorem IntRow.set {w : World} {base : Nat} {kv : Value} {n : Nat} (h : IntRow w base kv n) (g i : Nat) (z : Int) : IntRow (w.setCell ⟨g, i, none⟩ (.int .i64 z)) base kv n := by
  obtain ⟨xs, hx, hl, hown⟩ := h
  rcases hown with ⟨e1, e2⟩ | ⟨g', cap, cur, rfl, hb, hg, hn, hc, hs, ht⟩
  · exact ⟨xs, hx, hl, .inl ⟨e1, e2⟩⟩
  · by_cases hgg : g' = g
    · subst hgg
      refine ⟨xs.set i z, by simp [hx], by simp [hx], .inr ⟨g', cap, _, rfl, hb, heap_setCell_same _ _ _ _ _ _ hg, hn, hc, by simp [hs], ?_⟩⟩
      simp only [Array.toList_setIfInBounds, List.take_set, ht, List.map_set]
    · exact ⟨xs, hx, hl, .inr ⟨g', cap, cur, rfl, hb, (heap_setCell_other _ _ _ _ (by simpa using hgg)).trans hg, hn, hc, hs, ht⟩⟩

theorem IntRow.get {w : World} {base : Nat} {kv : Value} {n : Nat} (h : IntRow w base kv n) (j : Nat) (hj : j < n) :
    ∃ g c, kv = .slice (some ⟨g, 0, none⟩) n c ∧ base ≤ g ∧ g < w.heap.size ∧ (∃ z, w.cell? ⟨g, j, none⟩ = some (.int .i64 z)) ∧ w.frozen? ⟨g, j, none⟩ = false ∧ ∃ cur, w.heap[g]? = some (.cells cur 3 (0, 0)) := by
  obtain ⟨xs, hx, hown⟩ := h
  have hlt := hown.lt
  have hcells := fun g hg => hown.cells (g := g) hg
  rcases hown.2 with ⟨_, e2⟩ | ⟨g, cap, cur, rfl, hb, hg, hn, hc, hs, ht⟩
  · omega
  · refine ⟨g, cap, rfl, hb, (hlt g rfl).2, ?_, frozen_of_row _ _ _ _ _ hg, cur, hg⟩
    have hz : (xs.map (Value.int .i64))[j]? = some (.int .i64 xs[j]) := by simp [hx, hj]
    have := hcells g rfl j _ hz
    rw [Lib.add_plain] at this
    exact ⟨_, by simpa using this⟩

theorem grown_setCell (w : World) (g i : Nat) (v : Value) : w.grownBy (w.setCell ⟨g, i, none⟩ v) (some g) :=
  ⟨rfl, rfl, rfl, by simp [World.setCell], fun k _ hk => heap_setCell_other _ _ _ _ (by simpa using fun e : k = g => hk (by rw [e]))⟩

theorem own_same {w w' : World} {base : Nat} {e : TypeId} {size : Nat} {v : Value} {n : Nat} {xs : List Value} (h : w.ownsRow base e size v n xs) (hs : ∀ b, base ≤ b → w'.heap[b]? = w.heap[b]?) : w'.ownsRow base e size v n xs := by
  refine ⟨h.1, ?_⟩
  rcases h.2 with h2 | ⟨g, cap, cur, a, b, c, d⟩
  · exact .inl h2
  · exact .inr ⟨g, cap, cur, a, b, (hs g b).trans c, d⟩

theorem OutR.same {w w' : World} {base : Nat} {v : Value} {ps : List (Tx.StepV × Value)} (h : OutR w base v ps) (hs : ∀ b, base ≤ b → w'.heap[b]? = w.heap[b]?) : OutR w' base v ps :=
  ⟨own_same h.row hs, fun p hp => own_same (h.keeps p hp) hs, h.data⟩

/-- A step's list, in the row of steps. -/
theorem row_keep {w : World} {base : Nat} {v : Value} {ps : List (Tx.StepV × Value)} (h : w.ownsRow base 41 42 v ps.length (rowCells ps)) (hd : ∀ p ∈ ps, p.1.op.data.length = 32) (i : Nat) (p : Tx.StepV × Value) (hp : ps[i]? = some p) :
    ∃ g c, v = .slice (some ⟨g, 0, none⟩) ps.length c ∧ w.cell? ⟨g, i * 42 + 39, none⟩ = some p.2 := by
  rcases h.2 with ⟨_, e2⟩ | ⟨g, cap, cur, rfl, _⟩
  · have := (List.getElem?_eq_some_iff.1 hp).1
    omega
  · refine ⟨g, cap, rfl, ?_⟩
    have := h.cells rfl (i * 42 + 39) p.2 (rowCells_at ps i p hd hp 39 _ (stepCells_at (hd p (List.mem_of_getElem? hp))).2.2.2.1)
    rw [Lib.add_plain] at this
    simpa using this

/-- While what was read first is written over. -/
structure AInv (w2 w3 w4 wr : World) (va : Value) (psa : List (Tx.StepV × Value)) : Prop where
  old : Below w2.heap.size w2 wr
  new : ∀ b, w3.heap.size ≤ b → wr.heap[b]? = w4.heap[b]?
  size : w4.heap.size ≤ wr.heap.size
  row : wr.ownsRow w2.heap.size 41 42 va psa.length (rowCells psa)
  ints : ∀ p ∈ psa, IntRow wr w2.heap.size p.2 p.1.keep.length

theorem AInv.set {w2 w3 w4 wr : World} {va : Value} {psa : List (Tx.StepV × Value)} (h : AInv w2 w3 w4 wr va psa) {g j : Nat} (hg : w2.heap.size ≤ g) (hg3 : g < w3.heap.size) (hcur : ∃ cur, wr.heap[g]? = some (.cells cur 3 (0, 0))) (z : Int) :
    AInv w2 w3 w4 (wr.setCell ⟨g, j, none⟩ (.int .i64 z)) va psa := by
  refine ⟨h.old.setCell hg _, fun b hb => (heap_setCell_other _ _ _ _ (by simp; omega)).trans (h.new b hb), by simpa [World.setCell] using h.size, ?_, fun p hp => (h.ints p hp).set g j z⟩
  refine h.row.kept (grown_setCell wr g j _) ?_
  obtain ⟨cur, hc⟩ := hcur
  rcases h.row.2 with ⟨e1, _⟩ | ⟨g', _, cur', e1, _, hg', _⟩
  · rw [e1]; exact .inl rfl
  · right
    rw [e1]
    intro e
    simp only [Value.ownBlock, Option.some.injEq] at e
    rw [e, hc] at hg'
    simp at hg'

theorem step_fits {s : Tx.Bytes} {x : Tx.StepV} (h : Tx.stepF s = some x) : ∀ n ∈ x.keep, 0 ≤ n := by
  unfold Tx.stepF Tx.stepL at h
  split at h
  · unfold Tx.crashF at h
    split at h
    · split at h
      · rename_i u n k hu hn hk
        injection h with h
        subst h
        intro m hm
        have := ((Tx.nums_iff _ _).1 hk).2 m hm
        simp only [Tx.fits, Bool.and_eq_true, decide_eq_true_eq] at this
        exact this.1
      · cases h
    · cases h
  · split at h
    · unfold Tx.armF at h
      split at h
      · split at h
        · split at h
          · injection h with h; subst h; simp [Tx.step0]
          · cases h
        · cases h
      · cases h
    · cases ho : Tx.operationF (Tx.splitS s) with
      | none => simp [ho] at h
      | some o => simp [ho] at h; subst h; simp [Tx.step0]

/-- text.Parse, of whatever short text: what is answered is new memory. -/
theorem parse_any2 (s : Tx.Bytes) (w : World) (hs : s.length ≤ 3000) (L : Ld w) :
    Calls Tryd.prog 11 #[.string ⟨s.toArray⟩] w fun e w' => Below w.heap.size w w' ∧ ∃ v ps, ∃ n er : Int, e = .returned (.tuple #[v, .int .i64 n, .int .i64 er]) ∧ OutR w' w.heap.size v ps ∧ ps.length ≤ 3000 ∧
      ∀ p ∈ ps, p.1.keep.length ≤ 3001 ∧ ∀ n ∈ p.1.keep, 0 ≤ n := by
  refine (parse_any s w (by omega) L).mono ?_
  rintro e w' ⟨hb, he⟩
  refine ⟨hb, ?_⟩
  rw [parseA_eq] at he
  cases hp : Tx.parseA s with
  | error m =>
    rw [hp] at he
    exact ⟨_, [], m, 16, he, ⟨World.ownsRow_nil _ _ _ _, by simp, by simp⟩, by simp, by simp⟩
  | ok l =>
    rw [hp] at he
    obtain ⟨v, ps, he, hps, hout⟩ := he
    obtain ⟨h1, h2⟩ := parsed_few hp hs
    refine ⟨v, ps, 0, 0, he, hout, by rw [← hps] at h1; simpa using h1, fun p hpp => ?_⟩
    have hm : p.1 ∈ l := by rw [← hps]; exact List.mem_map_of_mem hpp
    exact ⟨h2 _ hm, step_fits ((Tx.parseA_ok hp).2 _ hm).read⟩

theorem intRow_of {w : World} {base : Nat} {v : Value} {ps : List (Tx.StepV × Value)} (h : OutR w base v ps) : ∀ p ∈ ps, IntRow w base p.2 p.1.keep.length := fun p hp => ⟨p.1.keep, rfl, h.keeps p hp⟩

theorem info3z : (Tryd.prog.info? 3).map (fun i => (i.zero, i.size, i.bytes)) = some (some (.int .i64 0), 1, 8) := by kernel_rfl
theorem info36z : (Tryd.prog.info? 36).map (fun i => (i.zero, i.size, i.bytes)) = some (some (.slice none 0 0), 1, 24) := by kernel_rfl

/-- A list that came in, behind the call's own. -/
theorem wpList_append_keep {w : World} {ops : Array Oper} {rest : List Oper} {o : Oper} {a : Act} {Q : Exit → Act → World → Prop} (hgd : o.guard = none) (s x : Operand)
    (ho : o.op = .call { callee := .builtin .append, args := #[s, x], argTypes := #[36, 36] }) (base : Nat) (v : Value) (hs : a.eval s = v) (hown : w.ownsRow base 3 1 v 0 [])
    (kv : Value) (l : List Int) (hx : a.eval x = kv) (hk : KeepR w kv l) (hsn : SlN kv) (hn : l.length ≤ 10000) (hbase : base ≤ w.heap.size)
    (h : ∀ v' w', w'.ownsRow base 3 1 v' l.length (l.map (.int .i64)) → w.grownBy w' v.ownBlock → wpList Tryd.prog ops Q rest (a.put o.dst v') w') : wpList Tryd.prog ops Q (o :: rest) a w := by
  obtain ⟨i0, hi0, hz0, hz1, hz2⟩ := info_parts info3z
  obtain ⟨ad, c, rfl, hc⟩ := hk
  rcases hsn with hnil | ⟨ad', n', c', hsome⟩
  · injection hnil with e1 e2 e3
    subst e1
    subst e3
    have hl : l = [] := List.eq_nil_of_length_eq_zero e2
    subst hl
    exact wpList_append_own_none hgd s x 36 ho base 3 i0 1 Tryd.underlying36 hi0 v 0 [] hs hown hx (h v w hown (World.grownBy.refl _ _))
  · injection hsome with e1 e2 e3
    subst e1
    refine wpList_append_own _ hgd s x 36 ho base 3 i0 _ 1 8 Tryd.underlying36 hi0 hz0 hz1 hz2 rfl (by decide) v 0 [] hs hown ad' l.length c (l.map (.int .i64)) hx (by simp) ?_ ?_ (by unfold maxLen; omega) (by omega) hbase ?_
    · intro j u hu
      rw [List.getElem?_map] at hu
      cases hj : l[j]? with
      | none => simp [hj] at hu
      | some m =>
        simp only [hj, Option.map_some, Option.some.injEq] at hu
        subst hu
        obtain ⟨b, o', hb, hcc⟩ := hc (by intro e; rw [e] at hj; simp at hj)
        have hb' := Option.some.inj hb
        rw [hb', Lib.add_plain]
        exact hcc j m hj
    · intro u hu
      obtain ⟨m, _, rfl⟩ := List.mem_map.1 hu
      rfl
    · intro v' w' h1 h2 _
      exact h v' w' (M.own_eq h1 (by simp) (by simp)) h2

theorem own_made3 (w : World) : (w.alloc (.cells #[] 3)).ownsRow w.heap.size 3 1 (.slice (some ⟨w.heap.size, 0, none⟩) 0 0) 0 [] := World.ownsRow_made w #[] 0 (Nat.le_refl _) (by decide) rfl

end Go.Proofs.YtjjlmhlfobmpgaaDoor
