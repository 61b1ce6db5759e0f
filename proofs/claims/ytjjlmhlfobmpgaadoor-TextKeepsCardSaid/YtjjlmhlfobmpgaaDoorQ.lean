/-
Two operations are compared.
-/
import Derived.Test.YtjjlmhlfobmpgaaDoorN3
import Derived.Stop.BytesEq
import Derived.Laws.StructEq
namespace Go.Proofs.YtjjlmhlfobmpgaaDoor
open Go.RowKit

theorem stood35 : Tryd.prog.stoodInHeld 35 = false := by kernel_rfl
theorem guard35 : Tryd.prog.eqGuardType Tryd.prog.depth 35 = false := by kernel_rfl
theorem fields35 : (Tryd.prog.fieldsOf 35).toList.map (fun f => (f.name != "_", f.type, f.offset)) = [(true, 3, 0), (true, 3, 1), (true, 3, 2), (true, 33, 3), (true, 4, 35), (true, 3, 36)] := by kernel_rfl
theorem under35 : Tryd.prog.underlying 35 = some (.struct (Tryd.prog.fieldsOf 35)) := by kernel_rfl

/-- The fields' comparison is what the list of their types and places makes of it. -/
theorem eqFields_of {P : Program} (w : World) (d : Nat) (xs ys : Array Value) : ∀ (fs : List Field) (l : List (Bool × TypeId × Nat)), fs.map (fun f => (f.name != "_", f.type, f.offset)) = l → ∀ (bs : List Bool), bs.length = l.length →
    (∀ (i : Nat) (x : Bool × TypeId × Nat) (b : Bool), l[i]? = some x → bs[i]? = some b → x.1 = true ∧ ∃ u v, (part x.2.1 xs x.2.2).run P w = .ok u w ∧ (part x.2.1 ys x.2.2).run P w = .ok v w ∧ (Op.equalIn d x.2.1 u v).run P w = .ok b w) →
    (Op.eqFields d xs ys fs).run P w = .ok (bs.all id) w
  | [], l, hl, bs, hb, _ => by
    subst hl
    cases bs with
    | nil => simp [Op.eqFields]
    | cons b bs => simp at hb
  | f :: fs, l, hl, bs, hb, h => by
    subst hl
    cases bs with
    | nil => simp at hb
    | cons b bs =>
      obtain ⟨h1, u, v, hu, hv, he⟩ := h 0 _ b rfl rfl
      have hn : f.name ≠ "_" := by simpa using h1
      have ih := eqFields_of w d xs ys fs _ rfl bs (by simpa using hb) (fun i x b hx hb => h (i + 1) x b (by simpa using hx) (by simpa using hb))
      simp only [Op.eqFields, if_pos hn, Sem.run_bind, hu, hv, he, Result.andThen_ok, Sem.run_ite]
      cases b with
      | true => simp [ih]
      | false => simp

theorem bv_cell (d : Tx.Bytes) : d.map bv = d.map Extern.Stop.cell := List.map_congr_left fun _ _ => rfl

/-- The model's comparison of two operations. -/
theorem eq_op (a b : Tx.OpV) (ha : a.data.length = 32) (hb : b.data.length = 32) (w : World) :
    (Op.equalIn 10000 35 (.agg (opCells a).toArray) (.agg (opCells b).toArray)).run Tryd.prog w = .ok (Tx.opEq a b) w := by
  rw [run_equalIn_agg (P := Tryd.prog) w 9999 35 _ _ under35 stood35]
  obtain ⟨a0, a1, a2, a3, a4, a5⟩ := opCells_at ha
  obtain ⟨b0, b1, b2, b3, b4, b5⟩ := opCells_at hb
  have hex : ∀ o : Tx.OpV, o.data.length = 32 → (opCells o).toArray.extract 3 35 = (o.data.map bv).toArray := fun o ho => by
    simp [opCells, ho]
  have p1 : ∀ (o : Tx.OpV) (i : Nat) (t : TypeId) (v : Value), (isAgg t).run Tryd.prog w = .ok false w → (opCells o)[i]? = some v → (part t (opCells o).toArray i).run Tryd.prog w = .ok v w := fun o i t v ht hv => by
    simp [part, ht, hv]
  have pd : ∀ o : Tx.OpV, o.data.length = 32 → (part 33 (opCells o).toArray 3).run Tryd.prog w = .ok (.agg (o.data.map bv).toArray) w := fun o ho => by
    have h2 : (opCells o).length = 37 := opCells_len ho
    simp [part, Tryd.isAgg33, Tryd.sizeOf33, ← hex o ho, h2]
  have hd : (Op.equalIn 9999 33 (.agg (a.data.map bv).toArray) (.agg (b.data.map bv).toArray)).run Tryd.prog w = .ok (a.data == b.data) w := by
    rw [bv_cell, bv_cell]
    exact run_equalIn_bytes w 9997 33 5 32 Tryd.underlying33 Tryd.underlying5 (fun w => Tryd.sizeOf5 w) a.data b.data ha hb
  have hi : ∀ x y : Int, (Op.equalIn 9999 3 (.int .i64 x) (.int .i64 y)).run Tryd.prog w = .ok (x == y) w := fun x y => run_equalIn_int w 9998 3 .i64 .i64 x y Tryd.underlying3
  have hs : ∀ x y : Bool, (Op.equalIn 9999 4 (.bool x) (.bool y)).run Tryd.prog w = .ok (x == y) w := fun x y => run_equalIn_bool' w 9998 4 x y Tryd.underlying4
  have := eqFields_of w 9999 (opCells a).toArray (opCells b).toArray _ _ fields35 [a.kind == b.kind, a.id == b.id, a.block == b.block, a.data == b.data, a.sync == b.sync, a.policy == b.policy] rfl (fun i x c hx hc => by
    match i, hx, hc with
    | 0, hx, hc => simp at hx hc; subst hx; subst hc; exact ⟨rfl, _, _, p1 a 0 3 _ (Tryd.isAgg3 w) a0, p1 b 0 3 _ (Tryd.isAgg3 w) b0, hi _ _⟩
    | 1, hx, hc => simp at hx hc; subst hx; subst hc; exact ⟨rfl, _, _, p1 a 1 3 _ (Tryd.isAgg3 w) a1, p1 b 1 3 _ (Tryd.isAgg3 w) b1, hi _ _⟩
    | 2, hx, hc => simp at hx hc; subst hx; subst hc; exact ⟨rfl, _, _, p1 a 2 3 _ (Tryd.isAgg3 w) a2, p1 b 2 3 _ (Tryd.isAgg3 w) b2, hi _ _⟩
    | 3, hx, hc => simp at hx hc; subst hx; subst hc; exact ⟨rfl, _, _, pd a ha, pd b hb, hd⟩
    | 4, hx, hc => simp at hx hc; subst hx; subst hc; exact ⟨rfl, _, _, p1 a 35 4 _ (Tryd.isAgg4 w) a3, p1 b 35 4 _ (Tryd.isAgg4 w) b3, hs _ _⟩
    | 5, hx, hc => simp at hx hc; subst hx; subst hc; exact ⟨rfl, _, _, p1 a 36 3 _ (Tryd.isAgg3 w) a4, p1 b 36 3 _ (Tryd.isAgg3 w) b4, hi _ _⟩
    | i + 6, hx, hc => simp at hx)
  rw [this]
  simp [Tx.opEq, Bool.and_assoc]

section
variable {P : Program}
/-- An operator by its run. -/
theorem wpList_binop {ops : Array Oper} {rest : List Oper} {o : Oper} {a : Act} {w : World} {Q : Exit → Act → World → Prop} (hgd : o.guard = none) (bop : BinOp) (t rt : TypeId) (x y : Operand) (ho : o.op = .binOp bop t x y rt)
    (u v r : Value) (hx : a.eval x = u) (hy : a.eval y = v) (hg : (eqGuard bop t x y u v).run P w = .ok () w) (hr : (binOp bop t u v).run P w = .ok r w)
    (h : wpList P ops Q rest (a.put o.dst r) w) : wpList P ops Q (o :: rest) a w :=
  wpList_plain hgd fun _ hK => by
    unfold Oper.wp execOp
    simp only [ho, hx, hy, hg, hr, Sem.run_bind, Sem.run_pure, Result.andThen_ok]
    exact hK _ _ h
end

theorem run_eq_op (a b : Tx.OpV) (ha : a.data.length = 32) (hb : b.data.length = 32) (w : World) :
    (binOp .eql 35 (.agg (opCells a).toArray) (.agg (opCells b).toArray)).run Tryd.prog w = .ok (.bool (Tx.opEq a b)) w := by
  rw [run_eql_struct, eq_op a b ha hb w]; rfl
theorem run_ne_op (a b : Tx.OpV) (ha : a.data.length = 32) (hb : b.data.length = 32) (w : World) :
    (binOp .neq 35 (.agg (opCells a).toArray) (.agg (opCells b).toArray)).run Tryd.prog w = .ok (.bool (!Tx.opEq a b)) w := by
  rw [run_neq_struct, eq_op a b ha hb w]; rfl

end Go.Proofs.YtjjlmhlfobmpgaaDoor
