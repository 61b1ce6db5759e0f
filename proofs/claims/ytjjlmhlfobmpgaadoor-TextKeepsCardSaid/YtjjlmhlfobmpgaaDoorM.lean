/-
Small laws on memory, of no program: bytes made a string, blocks known whole.
-/
import Derived.WalkKit
import Derived.WalkSpells
import Derived.WalkLawsBesides
import Derived.Lib.Hide
import Derived.Laws.BytesString
import Derived.Laws.BytesArg
namespace Go.Proofs.YtjjlmhlfobmpgaaDoor.M
open Go.RowKit

theorem bcell {W w1 : World} (hb : Below W.heap.size W w1) : (∀ b o, b < W.heap.size → w1.cell? ⟨b, o, none⟩ = W.cell? ⟨b, o, none⟩) ∧ (∀ b o, b < W.heap.size → w1.frozen? ⟨b, o, none⟩ = W.frozen? ⟨b, o, none⟩) :=
  ⟨fun b o h => hb.cell (p := ⟨b, o, none⟩) h, fun b o h => hb.frozen (p := ⟨b, o, none⟩) h⟩

section
variable {P : Program}

theorem byte_toNat (x : Nat) (h : x < 256) : (UInt8.ofNat x).toNat = x := by simp; omega

/-- Bytes made a string: the cells hold the bytes l. -/
theorem run_bytes_str (src dst e : TypeId) (hs : P.underlying src = some (.slice e)) (he : P.underlying e = some (.int .u8)) (hd : P.underlying dst = some .string)
    (a : Addr) (l : List UInt8) (n c : Nat) (hn : n = l.length) (w : World) (hc : ∀ j u, l[j]? = some u → w.cell? (a.add j) = some (.int .u8 (u.toNat : Int))) :
    (convert src dst (.slice (some a) n c)).run P w = .ok (.string ⟨l.toArray⟩) w := by
  subst hn
  rw [run_convert_bytes_string w src dst e (some a) l.length c hs he hd]
  have h := run_loadCells_list (P := P) w a (l.map fun u => Value.int .u8 (u.toNat : Int)) (fun j v hj => by
    rw [List.getElem?_map] at hj
    cases hu : l[j]? with
    | none => simp [hu] at hj
    | some u => simp [hu] at hj; rw [← hj]; exact hc j u hu)
  have e1 : (l.map fun u => Value.int .u8 (u.toNat : Int)) = (l.map fun u => (u.toNat : Int)).map (Value.int .u8) := by simp
  rw [e1] at h
  simp only [List.length_map] at h
  rw [run_bytesToString (P := P) w a l.length c _ h]
  congr 2
  apply ByteArray.ext
  apply Array.toList_inj.1
  suffices H : ∀ (l : List UInt8) (s : ByteArray), ((l.map fun u => (u.toNat : Int)).foldl (fun r n => r.push (UInt8.ofNat n.toNat)) s).data.toList = s.data.toList ++ l by
    rw [H]; rfl
  intro l
  induction l with
  | nil => intro s; simp
  | cons u r ih =>
    intro s
    simp only [List.map_cons, List.foldl_cons]
    rw [ih]
    simp

/-- One byte made a string. -/
theorem run_byte_str (src dst e : TypeId) (hs : P.underlying src = some (.slice e)) (he : P.underlying e = some (.int .u8)) (hd : P.underlying dst = some .string)
    (b : Nat) (x : Int) (c : Nat) (w : World) (hx : 0 ≤ x) (hx2 : x < 256) (hc : w.cell? ⟨b, 0, none⟩ = some (.int .u8 x)) :
    (convert src dst (.slice (some ⟨b, 0, none⟩) 1 c)).run P w = .ok (.string ⟨#[UInt8.ofNat x.toNat]⟩) w :=
  run_bytes_str src dst e hs he hd ⟨b, 0, none⟩ [UInt8.ofNat x.toNat] 1 c rfl w (fun j u hj => by
    cases j with
    | zero =>
      simp only [List.getElem?_cons_zero, Option.some.injEq] at hj
      subst hj
      rw [byte_toNat _ (by omega)]
      have : ((x.toNat : Nat) : Int) = x := by omega
      rw [this]
      exact hc
    | succ j => simp at hj)

end

section
variable {P : Program}
/-- An element of an array's value. -/
theorem run_index_arr (t e : TypeId) (n : Nat) (ht : P.underlying t = some (.array n e)) (ha : ∀ w, (isAgg e).run P w = .ok false w) (hz : ∀ w, (Go.sizeOf e).run P w = .ok 1 w)
    (cs : Array Value) (k : IntKind) (i : Int) (v : Value) (h0 : 0 ≤ i) (h1 : i < n) (hv : cs[i.toNat]? = some v) (w : World) :
    (Instr.index t (.agg cs) (.int k i)).run P w = .ok v w := by
  simp [Instr.index, asIntOf, run_underlying ht, h0, h1, part, ha, hz, hv]
end

section
variable {P : Program}
/-- A byte of a string. -/
theorem run_index_str (t : TypeId) (ht : P.underlying t = some .string) (s : ByteArray) (k : IntKind) (i : Int) (b : UInt8) (h0 : 0 ≤ i) (hb : s.data.toList[i.toNat]? = some b) (w : World) :
    (Instr.index t (.string s) (.int k i)).run P w = .ok (.int .u8 (b.toNat : Int)) w := by
  have hb' : s[i.toNat]? = some b := by
    obtain ⟨hl, he⟩ := List.getElem?_eq_some_iff.1 hb
    have hl' : i.toNat < s.size := by simpa using hl
    have := getElem?_pos s i.toNat hl'
    rw [this, ← he]
    rfl
  simp [Instr.index, asIntOf, run_underlying ht, h0, hb']
end

theorem flatMap_at {α β : Type} (f : α → List β) (n : Nat) (hf : ∀ x, (f x).length = n) : ∀ (l : List α) (k j : Nat) (x : α), l[k]? = some x → j < n → (l.flatMap f)[k * n + j]? = (f x)[j]?
  | [], k, j, x, h, _ => by simp at h
  | a :: r, 0, j, x, h, hj => by
    simp at h; subst h
    rw [List.flatMap_cons, Nat.zero_mul, Nat.zero_add, List.getElem?_append_left (by rw [hf]; exact hj)]
  | a :: r, k + 1, j, x, h, hj => by
    rw [List.flatMap_cons, List.getElem?_append_right (by rw [hf, Nat.add_mul]; omega), hf]
    have : (k + 1) * n + j - n = k * n + j := by rw [Nat.add_mul]; omega
    rw [this]
    exact flatMap_at f n hf r k j x (by simpa using h) hj

section
variable {w w' : World} {base : Nat} {e : TypeId} {size : Nat} {v : Value} {n : Nat} {xs : List Value}
theorem own_below (h : w.ownsRow base e size v n xs) (hb : Below w.heap.size w w') : w'.ownsRow base e size v n xs :=
  h.kept (row := none) ⟨hb.os, hb.tape, hb.output, hb.size, fun k hk _ => hb.block k hk⟩ (by cases hv : v.ownBlock <;> simp)
theorem own_base (h : w.ownsRow base e size v n xs) {base' : Nat} (hb : base' ≤ base) : w.ownsRow base' e size v n xs := by
  refine ⟨h.1, ?_⟩
  rcases h.2 with h2 | ⟨g, cap, cur, a, b, c⟩
  · exact .inl h2
  · exact .inr ⟨g, cap, cur, a, by omega, c⟩
theorem own_eq (h : w.ownsRow base e size v n xs) {n' : Nat} {xs' : List Value} (hn : n = n') (hx : xs = xs') : w.ownsRow base e size v n' xs' := by
  subst hn; subst hx; exact h
end

/-- Where a block stands, behind blocks that were laid. -/
theorem heap_alloc_if (w : World) (o : Obj) (i : Nat) : (w.alloc o).heap[i]? = if i = w.heap.size then some o else w.heap[i]? := by
  split
  · rename_i h; subst h; exact heap_alloc_new w o
  · rename_i h
    rcases Nat.lt_or_ge i w.heap.size with hlt | hge
    · exact Below.heap_alloc w o i hlt
    · have h1 : w.heap[i]? = none := Array.getElem?_eq_none hge
      have h2 : (w.alloc o).heap[i]? = none := Array.getElem?_eq_none (by simp; omega)
      rw [h1, h2]

/-- A struct or an array in a cell of its own, and one more result. -/
theorem results_cell_tmp {P : Program} {fn : Func} {p q : Tmp} {ty : TypeId} (h : fn.results = #[.cell p ty, .tmp q]) (tmps : Array Value) (w : World) (g : Nat) (t : TypeId) (cs : Array Value) (fr : Nat × Nat) (d : TypeDesc)
    (hp : tmps.getD p undef = .pointer (some ⟨g, 0, none⟩)) (hg : w.heap[g]? = some (.cells cs t fr))
    (hu : P.underlying ty = some d) (hd : (match d with | .struct _ | .array _ _ => true | _ => false) = true) (hi : (P.info? ty).map (·.size) = some cs.size) :
    (results fn tmps).run P w = .ok (.tuple #[.agg cs, tmps.getD q undef]) w := by
  have hp' : tmps[p]?.getD undef = .pointer (some ⟨g, 0, none⟩) := by simpa using hp
  simp [results, h, hp', asAddr, run_loadVar_row w g t ty cs fr d hg hu hd hi]

theorem heap_setRow_same (w : World) (g : Nat) (cs c' : Array Value) (t : TypeId) (hg : w.heap[g]? = some (.cells cs t (0, 0))) : (w.setRow g c').heap[g]? = some (.cells c' t (0, 0)) := by
  simp [World.setRow, Array.getElem?_modify, hg]
theorem heap_setRow_other (w : World) (g k : Nat) (c' : Array Value) (h : k ≠ g) : (w.setRow g c').heap[k]? = w.heap[k]? := by
  simp [World.setRow, Array.getElem?_modify, Ne.symm h]
theorem below_setRow {B : Nat} {a w : World} (h : Below B a w) {g : Nat} (hg : B ≤ g) (c' : Array Value) : Below B a (w.setRow g c') :=
  ⟨h.os, h.tape, h.output, by rw [size_setRow]; exact h.size, fun k hk => (heap_setRow_other w g k c' (by omega)).trans (h.block k hk)⟩

section
variable {P : Program}
/-- A whole value into a whole block. -/
theorem wpList_store_row {ops : Array Oper} {rest : List Oper} {o : Oper} {a : Act} {w : World} {Q : Exit → Act → World → Prop} (hgd : o.guard = none) (ty : TypeId) (x y : Operand) (ho : o.op = .store ty x y)
    (g : Nat) (hx : a.eval x = .pointer (some ⟨g, 0, none⟩)) (t : TypeId) (old cells : Array Value) (hy : a.eval y = .agg cells) (hg : w.heap[g]? = some (.cells old t (0, 0)))
    (hi : (P.info? ty).map (·.size) = some cells.size) (hs : old.size = cells.size) (h1 : cells.all (·.oneCell') = true)
    (h : wpList P ops Q rest (a.put o.dst undef) (w.setRow g cells)) : wpList P ops Q (o :: rest) a w :=
  wpList_plain hgd fun _ hK => by
    unfold Oper.wp execOp
    simp only [ho, hx, hy, Instr.storeAt, Instr.sureAddr, Sem.run_bind, Sem.run_pure, Result.andThen_ok, run_storeVar_row w g t ty old cells hg hi hs h1]
    exact hK _ _ h
end

end Go.Proofs.YtjjlmhlfobmpgaaDoor.M
