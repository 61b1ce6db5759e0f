/-
Walks: windrowref25.Line of an operation.
-/
import Derived.Test.YtjjlmhlfobmpgaaDoorV4
import Derived.Test.YtjjlmhlfobmpgaaDoorE
namespace Go.Proofs.YtjjlmhlfobmpgaaDoor
open Go.RowKit

theorem refArgs_cons {x o o1 : Tx.OpV} {tl s s1 : Tx.Bytes} {k : Nat} {c : UInt8} {r : Option (Tx.Bytes × Tx.OpV)} (hc : tl[k]? = some c) (h : Tx.refArgs x (tl.drop k) s o = r) (h1 : Tx.refArg x c s o = some (s1, o1)) :
    Tx.refArgs x (tl.drop (k + 1)) s1 o1 = r := by
  obtain ⟨hk, he⟩ := List.getElem?_eq_some_iff.1 hc
  rw [List.drop_eq_getElem_cons hk, he] at h
  rw [← h]
  conv => rhs; unfold Tx.refArgs
  rw [h1]

theorem refArgs_no {x o : Tx.OpV} {tl s : Tx.Bytes} {k : Nat} {c : UInt8} {r : Option (Tx.Bytes × Tx.OpV)} (hc : tl[k]? = some c) (h : Tx.refArgs x (tl.drop k) s o = r) (h1 : Tx.refArg x c s o = none) : r = none := by
  obtain ⟨hk, he⟩ := List.getElem?_eq_some_iff.1 hc
  rw [List.drop_eq_getElem_cons hk, he] at h
  rw [← h]
  unfold Tx.refArgs
  rw [h1]

theorem refArgs_end {x o : Tx.OpV} {tl s : Tx.Bytes} {r : Option (Tx.Bytes × Tx.OpV)} (h : Tx.refArgs x (tl.drop tl.length) s o = r) : r = some (s, o) := by
  rw [List.drop_length] at h
  rw [← h]; rfl

theorem name_len (k : Int) (s : Bool) : (Tx.nameF k s).1.length ≤ 10 ∧ (Tx.nameF k s).2.length ≤ 3 := by
  cases s with
  | true =>
    by_cases h : k = 7
    · subst h; decide
    · simp [Tx.nameF, h]
  | false =>
    by_cases h1 : k = 1
    · subst h1; decide
    by_cases h2 : k = 2
    · subst h2; decide
    by_cases h3 : k = 3
    · subst h3; decide
    by_cases h4 : k = 4
    · subst h4; decide
    by_cases h5 : k = 5
    · subst h5; decide
    by_cases h6 : k = 6
    · subst h6; decide
    by_cases h7 : k = 7
    · subst h7; decide
    by_cases h8 : k = 8
    · subst h8; decide
    by_cases h9 : k = 9
    · subst h9; decide
    by_cases h10 : k = 10
    · subst h10; decide
    by_cases h11 : k = 11
    · subst h11; decide
    by_cases h12 : k = 12
    · subst h12; decide
    simp [Tx.nameF, h1, h2, h3, h4, h5, h6, h7, h8, h9, h10, h11, h12]

section
variable {P : Program}
/-- One operation of a quiet walk, by its run. -/
theorem wpQuiet_val {ops : Array Oper} {C : World → Prop} {Q : Act → Prop} {a : Act} {o : Oper} {rest : List Oper} (v : Value) (hgd : o.guard = none) (hr : ∀ w, C w → (execOp a.eval o).run P w = .ok (.value v) w)
    (h : wpQuiet P ops C Q rest (a.put o.dst v)) : wpQuiet P ops C Q (o :: rest) a :=
  wpQuiet_step fun K hK => by
    rw [if_pos (by simp [Region.wanted, hgd])]
    exact ⟨v, fun w hw => by unfold Oper.quietAt; rw [hr w hw]; exact ⟨rfl, rfl⟩, hK _ h⟩

theorem exec_load_mid {o : Oper} {a : Act} {w : World} (ty : TypeId) (x : Operand) (ho : o.op = .load ty x) (b k : Nat) (hx : a.eval x = .pointer (some ⟨b, k, none⟩)) (cs : List Value) (d : TypeDesc) (hc : w.rangeAt b k cs)
    (hu : P.underlying ty = some d) (hd : d.isRow = true) (hi : (P.info? ty).map (·.size) = some cs.length) : (execOp a.eval o).run P w = .ok (.value (.agg cs.toArray)) w := by
  unfold execOp
  simp only [ho, hx, Instr.loadAt, Instr.sureAddr, Sem.run_bind, Sem.run_pure, Result.andThen_ok, run_loadVar_mid w b k ty cs d hc hu hd hi]

theorem exec_binop {o : Oper} {a : Act} {w : World} (bop : BinOp) (t rt : TypeId) (x y : Operand) (ho : o.op = .binOp bop t x y rt) (u v r : Value) (hx : a.eval x = u) (hy : a.eval y = v)
    (hg : (eqGuard bop t x y u v).run P w = .ok () w) (hr : (binOp bop t u v).run P w = .ok r w) : (execOp a.eval o).run P w = .ok (.value r) w := by
  unfold execOp
  simp only [ho, hx, hy, hg, hr, Sem.run_bind, Sem.run_pure, Result.andThen_ok]
end

theorem rangeAt_drewN {w : World} {b o : Nat} {cs : List Value} (h : w.rangeAt b o cs) (n : Nat) : (w.drewN n).rangeAt b o cs := h
theorem rangeAt_row {w : World} {g : Nat} {cs : List Value} {t : TypeId} {fr : Nat × Nat} (h : w.heap[g]? = some (.cells cs.toArray t fr)) : w.rangeAt g 0 cs := fun j v hj => by
  rw [cell_of_row w _ _ _ _ _ h]; simpa using hj

theorem rangeAt_setRow {w : World} {b o g : Nat} {cs : List Value} {c' : Array Value} (h : b ≠ g) (hr : w.rangeAt b o cs) : (w.setRow g c').rangeAt b o cs := fun j v hv => by
  have := hr j v hv
  unfold World.cell? at this ⊢
  rw [M.heap_setRow_other _ _ _ _ h]
  exact this

def opArg (x : Tx.OpV) (c : UInt8) : Int := if c = 105 then x.id else if c = 98 then x.block else if c = 112 then x.policy else 0
def opPut (x o : Tx.OpV) (c : UInt8) : Tx.OpV := if c = 105 then { o with id := x.id } else if c = 98 then { o with block := x.block } else if c = 112 then { o with policy := x.policy } else o
theorem refArg_num {x o : Tx.OpV} {c : UInt8} {s : Tx.Bytes} (h : c ≠ 100) (hf : Tx.fits (opArg x c) = true) : Tx.refArg x c s o = some (s ++ [32] ++ Lib.decDigits (opArg x c).toNat, opPut x o c) := by
  unfold Tx.refArg
  rw [if_neg h]
  show (if Tx.fits (opArg x c) then some (s ++ [32] ++ Lib.decDigits (opArg x c).toNat, opPut x o c) else none) = _
  rw [if_pos hf]
theorem refArg_num_no {x o : Tx.OpV} {c : UInt8} {s : Tx.Bytes} (h : c ≠ 100) (hf : Tx.fits (opArg x c) = false) : Tx.refArg x c s o = none := by
  unfold Tx.refArg
  rw [if_neg h]
  show (if Tx.fits (opArg x c) then some (s ++ [32] ++ Lib.decDigits (opArg x c).toNat, opPut x o c) else none) = _
  rw [hf]; rfl

set_option maxHeartbeats 4000000 in
set_option maxRecDepth 100000 in
theorem rline_op1 (x : Tx.StepV) (kv : Value) (w : World) (hd : x.op.data.length = 32) (hk : KeepR w kv x.keep) (hc : x.crash = false) (h2 : ((x.soft : Int) != 0) = false) (h3 : (x.tear != 0) = false) (h4 : ((x.keep.length : Int) != 0) = false) (h5 : (x.arm != 0) = false) (nm : Tx.Bytes) (tl : Tx.Bytes) (hnm : Tx.nameF x.op.kind x.op.sync = (nm, tl)) (hn : nm = []) :
    Calls Tryd.prog 16 #[.agg (stepCells x kv).toArray] w (RLineP (Tx.refLine x) w) := by
  have HL := Lib.hid (lineW x kv w hd)
  have HZ0 : Hid (((w.alloc (.cells (stepCells x kv).toArray 41)).alloc (.cells Z37 35)).heap[w.heap.size + 1]? = some (.cells Z37 35 (0, 0))) := Lib.hid (by rw [M.heap_alloc_if, if_pos (by simp)])
  have HD := Lib.hid hd
  have HK := Lib.hid hk
  have HF : Hid (Tx.refLine x = none) := Lib.hid (by subst hn; have h2' : (x.soft != 0) = false := (by (simp at h2 ⊢; omega)); have h4' : (x.keep.length != 0) = false := (by (simp at h4 ⊢; exact h4)); unfold Tx.refLine; simp only [hc, h2', h3, h4', h5, hnm]; simp)
  have hnl := name_len x.op.kind x.op.sync
  rw [hnm] at hnl
  have HNM := Lib.hid hnm
  have HN := Lib.hid hn
  have HNL := Lib.hid hnl
  have hne : (nm == ([] : List UInt8)) = true := by rw [hn]; rfl
  clear hnm hn hnl
  have HC := Lib.hid hc
  clear hd hk hc
  go_enter Tryd.func16, Tryd.ntmps16
  go_upto_region 2 with (first
    | ((with_reducible show wpList _ _ _ ({ dst := _, op := Op.alloc 35, type := _, pos := _, after := _, guard := _ } :: _) _ _); refine wpList_alloc rfl 35 rfl _ (run_alloc35' _ _) ?_)
    | ((with_reducible show wpList _ _ _ ({ dst := _, op := Op.store 35 _ _, type := _, pos := _, after := _, guard := _ } :: _) _ _); refine M.wpList_store_row rfl 35 _ _ rfl (w.heap.size + 1) rfl 35 Z37 Z37 rfl HZ0.out info35 rfl one_Z37 ?_))
  clear HZ0
  generalize ((w.alloc (.cells (stepCells x kv).toArray 41)).alloc (.cells Z37 35)).setRow (w.heap.size + 1) Z37 = W at *
  have c2 := HL.out.crash
  rw [HC.out] at c2
  have c4 := HL.out.soft
  have c5 := HL.out.tear
  have c3 := HL.out.keep
  obtain ⟨a9, c9, rfl, -⟩ := HK.out
  have c1 := HL.out.arm
  have c6 : W.cell? ⟨w.heap.size, 0, none⟩ = some (.int .i64 x.op.kind) := by simpa using HL.out.range 0 _ (opCells_at HD.out).1
  have c7 : W.cell? ⟨w.heap.size, 35, none⟩ = some (.bool x.op.sync) := by simpa using HL.out.range 35 _ (opCells_at HD.out).2.2.2.1
  go_wp2_with (first
    | (go_at_call 23; refine (name_any _ _ _).mono ?_; rintro e w' ⟨rfl, rfl⟩; rw [HNM.out]; unfold NameV)
    | ((with_reducible show wpList _ _ _ ({ dst := _, op := Op.alloc 35, type := _, pos := _, after := _, guard := _ } :: _) _ _); refine wpList_alloc rfl 35 rfl _ (run_alloc35 _) ?_)
    | ((with_reducible show wpList _ _ _ ({ dst := _, op := Op.store 35 _ _, type := _, pos := _, after := _, guard := _ } :: _) _ _); refine M.wpList_store_row rfl 35 _ _ rfl W.heap.size rfl 35 Z37 (O37 x.op.kind x.op.sync) rfl (heap_alloc_new _ _) info35 rfl (one_O37 _ _) ?_))
  go_ret2
  show RLineP (Tx.refLine x) _ _ _
  rw [HF.out]
  exact ⟨M.below_setRow (HL.out.below.alloc HL.out.below.size _) HL.out.below.size _, _, rfl⟩

set_option maxHeartbeats 4000000 in
set_option maxRecDepth 100000 in
theorem rline_op2 (x : Tx.StepV) (kv : Value) (w : World) (hd : x.op.data.length = 32) (hk : KeepR w kv x.keep) (hc : x.crash = false) (h2 : ((x.soft : Int) != 0) = false) (h3 : (x.tear != 0) = false) (h4 : ((x.keep.length : Int) != 0) = false) (h5 : (x.arm != 0) = false) (nm : Tx.Bytes) (tl : Tx.Bytes) (hnm : Tx.nameF x.op.kind x.op.sync = (nm, tl)) (hn : nm ≠ []) :
    Calls Tryd.prog 16 #[.agg (stepCells x kv).toArray] w (RLineP (Tx.refLine x) w) := by
  have HL := Lib.hid (lineW x kv w hd)
  have HZ0 : Hid (((w.alloc (.cells (stepCells x kv).toArray 41)).alloc (.cells Z37 35)).heap[w.heap.size + 1]? = some (.cells Z37 35 (0, 0))) := Lib.hid (by rw [M.heap_alloc_if, if_pos (by simp)])
  have HD := Lib.hid hd
  have HK := Lib.hid hk
  have HF : Hid (Tx.refLine x = match Tx.refArgs x.op tl nm { Tx.op0 with kind := x.op.kind, sync := x.op.sync } with | some (s, o) => if Tx.opEq o x.op then some (s ++ [10]) else none | none => none) := Lib.hid (by have h2' : (x.soft != 0) = false := (by (simp at h2 ⊢; omega)); have h4' : (x.keep.length != 0) = false := (by (simp at h4 ⊢; exact h4)); unfold Tx.refLine; simp only [hc, h2', h3, h4', h5, hnm]; simp [hn]; generalize Tx.refArgs _ _ _ _ = q; rcases q with _ | ⟨s, o⟩ <;> rfl)
  have hnl := name_len x.op.kind x.op.sync
  rw [hnm] at hnl
  have HNM := Lib.hid hnm
  have HN := Lib.hid hn
  have hne : (nm == ([] : List UInt8)) = false := by cases nm with | nil => exact absurd rfl hn | cons a b => rfl
  obtain ⟨hnl1, hnl2⟩ := hnl
  simp only at hnl1 hnl2
  clear hnm hn
  have HC := Lib.hid hc
  clear hd hk hc
  go_enter Tryd.func16, Tryd.ntmps16
  go_upto_region 2 with (first
    | ((with_reducible show wpList _ _ _ ({ dst := _, op := Op.alloc 35, type := _, pos := _, after := _, guard := _ } :: _) _ _); refine wpList_alloc rfl 35 rfl _ (run_alloc35' _ _) ?_)
    | ((with_reducible show wpList _ _ _ ({ dst := _, op := Op.store 35 _ _, type := _, pos := _, after := _, guard := _ } :: _) _ _); refine M.wpList_store_row rfl 35 _ _ rfl (w.heap.size + 1) rfl 35 Z37 Z37 rfl HZ0.out info35 rfl one_Z37 ?_))
  clear HZ0
  generalize ((w.alloc (.cells (stepCells x kv).toArray 41)).alloc (.cells Z37 35)).setRow (w.heap.size + 1) Z37 = W at *
  have c2 := HL.out.crash
  rw [HC.out] at c2
  have c4 := HL.out.soft
  have c5 := HL.out.tear
  obtain ⟨a9, c9, rfl, -⟩ := HK.out
  have c3 := HL.out.keep
  have c1 := HL.out.arm
  have c6 : W.cell? ⟨w.heap.size, 0, none⟩ = some (.int .i64 x.op.kind) := by simpa using HL.out.range 0 _ (opCells_at HD.out).1
  have c7 : W.cell? ⟨w.heap.size, 35, none⟩ = some (.bool x.op.sync) := by simpa using HL.out.range 35 _ (opCells_at HD.out).2.2.2.1
  go_wp2_with (first
    | (go_at_call 23; refine (name_any _ _ _).mono ?_; rintro e w' ⟨rfl, rfl⟩; rw [HNM.out]; unfold NameV)
    | ((with_reducible show wpList _ _ _ ({ dst := _, op := Op.alloc 35, type := _, pos := _, after := _, guard := _ } :: _) _ _); refine wpList_alloc rfl 35 rfl _ (run_alloc35 _) ?_)
    | ((with_reducible show wpList _ _ _ ({ dst := _, op := Op.store 35 _ _, type := _, pos := _, after := _, guard := _ } :: _) _ _); refine M.wpList_store_row rfl 35 _ _ rfl W.heap.size rfl 35 Z37 (O37 x.op.kind x.op.sync) rfl (heap_alloc_new _ _) info35 rfl (one_O37 _ _) ?_))
  have HV : Hid (((W.alloc (.cells Z37 35)).setRow W.heap.size (O37 x.op.kind x.op.sync)).heap[W.heap.size]? = some (.cells (opCells { Tx.op0 with kind := x.op.kind, sync := x.op.sync }).toArray 35 (0, 0))) :=
    Lib.hid ((M.heap_setRow_same _ _ _ _ _ (heap_alloc_new _ _)).trans (by rw [O37_op]))
  have HBV : Hid (Below W.heap.size W ((W.alloc (.cells Z37 35)).setRow W.heap.size (O37 x.op.kind x.op.sync))) := Lib.hid (M.below_setRow (below_new _ _) (Nat.le_refl _) _)
  clear c1 c2 c3 c4 c5 c6 c7
  generalize (W.alloc (.cells Z37 35)).setRow W.heap.size (O37 x.op.kind x.op.sync) = V at *
  have hgw : w.heap.size + 2 ≤ W.heap.size := by
    have := block_lt_of_heap HL.out.zero
    omega
  go_loopw [7, 10, 11] (fun v i _ wr => ∃ (k : Nat) (s : Tx.Bytes) (o : Tx.OpV), k ≤ tl.length ∧ i = .int .i64 k ∧ v = .string ⟨s.toArray⟩ ∧ s.length ≤ 20 + 100 * k ∧
      Tx.refArgs x.op (tl.drop k) s o = Tx.refArgs x.op tl nm { Tx.op0 with kind := x.op.kind, sync := x.op.sync } ∧ o.data.length = 32 ∧
      wr.heap[W.heap.size]? = some (.cells (opCells o).toArray 35 (0, 0)) ∧ Below W.heap.size W wr) (fun _ i _ _ => tl.length - (intOf i).toNat)
  case atStart =>
    exact ⟨0, nm, _, Nat.zero_le _, rfl, rfl, by omega, rfl, rfl, HV.out, HBV.out⟩
  case round =>
    obtain ⟨k, s, o, hk, rfl, rfl, hsl, hra, hod, hrow, hb⟩ := hrel
    have HRA := Lib.hid hra
    have HOD := Lib.hid hod
    have HROW := Lib.hid hrow
    have HB := Lib.hid hb
    have HLR := Lib.hid (HL.out.keepB hb)
    clear hra hod hrow hb
    have hWr : W.heap.size + 1 ≤ wr.heap.size := block_lt_of_heap HROW.out
    by_cases hlt : k < tl.length
    · obtain ⟨c, hc⟩ : ∃ c, tl[k]? = some c := ⟨_, List.getElem?_eq_getElem hlt⟩
      have hix := fun w' => M.run_index_str (P := Tryd.prog) 9 Tryd.underlying9 ⟨tl.toArray⟩ .i64 (k : Int) c (by omega) (by simpa using hc) w'
      have hlt2 : (k : Int) < (tl.length : Int) := by omega
      have HCC := Lib.hid hc
      clear hc
      by_cases h100 : c = 100
      · have e100 : ((c.toNat : Int) == 100) = true := by rw [h100]; rfl
        have HT : Hid (Tx.refArg x.op c s o = some (s ++ [32] ++ Tx.hexF x.op.data, { o with data := x.op.data })) := Lib.hid (by unfold Tx.refArg; rw [if_pos h100])
        have HRD : Hid (wr.rangeAt w.heap.size 3 (x.op.data.map bv)) := Lib.hid (fun j v hv => by
          have := HLR.out.range (3 + j) v ((opCells_at HD.out).2.2.2.2.2 j v hv)
          simpa using this)
        have HRD2 : Hid ((wr.setRow W.heap.size (opCells { o with data := x.op.data }).toArray).rangeAt w.heap.size 3 (x.op.data.map bv)) := Lib.hid (rangeAt_setRow (by omega) HRD.out)
        have HLE : Hid (3 + (x.op.data.map bv).toArray.size ≤ (opCells o).toArray.size) := Lib.hid (by simp [opCells, HOD.out, HD.out])
        have hhl : (Tx.hexF x.op.data).length = 64 := by rw [Tx.hexF_length, HD.out]
        have HSD := Lib.hid (set_data o x.op.data HOD.out HD.out)
        clear h100
        go_wp2_with (first
          | ((with_reducible show wpList _ _ _ ({ dst := _, op := Op.store 33 _ _, type := _, pos := _, after := _, guard := _ } :: _) _ _); refine wpList_store_midrow rfl 33 _ _ rfl W.heap.size 3 rfl 35 (opCells o).toArray (x.op.data.map bv).toArray rfl HROW.out (info33.trans (by simp [HD.out])) HLE.out (one_bv _) ?_; rw [HSD.out])
          | ((with_reducible show wpList _ _ _ ({ dst := _, op := Op.load 33 _, type := _, pos := _, after := _, guard := _ } :: _) _ _); first
             | (refine wpList_load_mid rfl 33 _ rfl w.heap.size 3 rfl (x.op.data.map bv) _ HRD.out Tryd.underlying33 rfl (info33.trans (by simp [HD.out])) ?_)
             | (refine wpList_load_mid rfl 33 _ rfl w.heap.size 3 rfl (x.op.data.map bv) _ HRD2.out Tryd.underlying33 rfl (info33.trans (by simp [HD.out])) ?_))
          | (go_at_call 24; refine (hexR_any _ _ HD.out).mono ?_; rintro e w1 ⟨rfl, hb1⟩))
        go_roundw
        case rel =>
          refine ⟨k + 1, s ++ [32] ++ Tx.hexF x.op.data, { o with data := x.op.data }, by omega, by go_num, by rw [str_add, str_add], by simp; omega, refArgs_cons HCC.out HRA.out HT.out, HD.out, ?_, ?_⟩
          · exact (hb1.block _ (by rw [size_setRow]; omega)).trans (M.heap_setRow_same _ _ _ _ _ HROW.out)
          · exact (M.below_setRow HB.out (Nat.le_refl _) _).trans (hb1.mono (by rw [size_setRow]; omega))
        case measure => simp [intOf]; omega
      · have e100 : ((c.toNat : Int) == 100) = false := by
          have : ¬ c.toNat = 100 := fun e => h100 (UInt8.toNat_inj.1 e)
          simp; omega
        have HC1 := Lib.hid h100
        clear h100
        by_cases h105 : c = 105
        · skip
          have e98 : ((c.toNat : Int) == 98) = false := by rw [h105]; rfl
          have e112 : ((c.toNat : Int) == 112) = false := by rw [h105]; rfl
          have e105 : ((c.toNat : Int) == 105) = true := by rw [h105]; rfl
          have hA : opArg x.op c = x.op.id := by rw [h105]; rfl
          have hP : opPut x.op o c = { o with id := x.op.id } := by rw [h105]; rfl
          have HA := Lib.hid hA
          have HPP := Lib.hid hP
          clear hA hP
          clear h105
          have d1 : wr.cell? ⟨w.heap.size, 1, none⟩ = some (.int .i64 x.op.id) := by simpa using HLR.out.range 1 _ (opCells_at HD.out).2.1
          have d2 : wr.cell? ⟨W.heap.size, 1, none⟩ = some (.int .i64 o.id) := (cell_of_row wr _ _ _ _ _ HROW.out).trans (by simpa using (opCells_at HOD.out).2.1)
          have d3 : wr.frozen? ⟨W.heap.size, 1, none⟩ = false := frozen_of_row _ _ _ _ _ HROW.out
          have HW1 : Hid ((wr.setCell ⟨W.heap.size, 1, none⟩ (.int .i64 x.op.id)).heap[W.heap.size]? = some (.cells (opCells { o with id := x.op.id }).toArray 35 (0, 0))) := Lib.hid ((heap_setCell_same _ _ _ _ _ _ HROW.out).trans (by rw [set_id o x.op.id HOD.out]))
          have HBW1 : Hid (Below W.heap.size W (wr.setCell ⟨W.heap.size, 1, none⟩ (.int .i64 x.op.id))) := Lib.hid (HB.out.setCell (Nat.le_refl _) _)
          cases hf : Tx.fits (x.op.id) with
          | false =>
            have HFF := Lib.hid hf
            clear hf
            go_wp2_with (go_at_call 21; refine (fits_any _ _).mono ?_; rintro e w' ⟨rfl, rfl⟩; rw [HFF.out])
            go_ret2
            have hno : Tx.refLine x = none := by
              rw [HF.out, refArgs_no HCC.out HRA.out (refArg_num_no HC1.out (by rw [HA.out]; exact HFF.out))]
            show RLineP (Tx.refLine x) _ _ _
            rw [hno]
            exact ⟨HL.out.below.trans (HBW1.out.mono HL.out.below.size), _, rfl⟩
          | true =>
            have hfn : 0 ≤ x.op.id ∧ x.op.id ≤ 999999 := by simpa [Tx.fits] using hf
            have HFF := Lib.hid hf
            clear hf
            have hwn : IntKind.u64.wrap x.op.id = x.op.id := IntWalk.u64_in _ (by omega)
            have hdn := dec_len (x.op.id).toNat (by omega)
            have HSN := Lib.hid (fun w => spell_any x.op.id w ⟨by omega, by omega⟩)
            go_wp2_with (first
              | (go_at_call 21; refine (fits_any _ _).mono ?_; rintro e w' ⟨rfl, rfl⟩; rw [HFF.out])
              | (go_at_call 22; refine (HSN.out _).mono ?_; rintro e w1 ⟨rfl, hb1⟩))
            go_roundw
            case rel =>
              refine ⟨k + 1, s ++ [32] ++ Lib.decDigits (x.op.id).toNat, opPut x.op o c, by omega, by go_num, by rw [str_add, str_add], by simp; omega, refArgs_cons HCC.out HRA.out ((refArg_num HC1.out (by rw [HA.out]; exact HFF.out)).trans (by rw [HA.out])), by rw [HPP.out]; exact HOD.out, ?_, ?_⟩
              · rw [HPP.out]; exact (hb1.block _ (block_lt_of_heap HW1.out)).trans HW1.out
              · exact HBW1.out.trans (hb1.mono HBW1.out.size)
            case measure => simp [intOf]; omega
        · skip
          have e105 : ((c.toNat : Int) == 105) = false := by
            have : ¬ c.toNat = 105 := fun e => h105 (UInt8.toNat_inj.1 e)
            simp; omega
          have HC3 := Lib.hid h105
          clear h105
          by_cases h98 : c = 98
          · skip
            have e112 : ((c.toNat : Int) == 112) = false := by rw [h98]; rfl
            have e98 : ((c.toNat : Int) == 98) = true := by rw [h98]; rfl
            have hA : opArg x.op c = x.op.block := by rw [h98]; rfl
            have hP : opPut x.op o c = { o with block := x.op.block } := by rw [h98]; rfl
            have HA := Lib.hid hA
            have HPP := Lib.hid hP
            clear hA hP
            clear h98
            have d1 : wr.cell? ⟨w.heap.size, 2, none⟩ = some (.int .i64 x.op.block) := by simpa using HLR.out.range 2 _ (opCells_at HD.out).2.2.1
            have d2 : wr.cell? ⟨W.heap.size, 2, none⟩ = some (.int .i64 o.block) := (cell_of_row wr _ _ _ _ _ HROW.out).trans (by simpa using (opCells_at HOD.out).2.2.1)
            have d3 : wr.frozen? ⟨W.heap.size, 2, none⟩ = false := frozen_of_row _ _ _ _ _ HROW.out
            have HW1 : Hid ((wr.setCell ⟨W.heap.size, 2, none⟩ (.int .i64 x.op.block)).heap[W.heap.size]? = some (.cells (opCells { o with block := x.op.block }).toArray 35 (0, 0))) := Lib.hid ((heap_setCell_same _ _ _ _ _ _ HROW.out).trans (by rw [set_block o x.op.block HOD.out]))
            have HBW1 : Hid (Below W.heap.size W (wr.setCell ⟨W.heap.size, 2, none⟩ (.int .i64 x.op.block))) := Lib.hid (HB.out.setCell (Nat.le_refl _) _)
            cases hf : Tx.fits (x.op.block) with
            | false =>
              have HFF := Lib.hid hf
              clear hf
              go_wp2_with (go_at_call 21; refine (fits_any _ _).mono ?_; rintro e w' ⟨rfl, rfl⟩; rw [HFF.out])
              go_ret2
              have hno : Tx.refLine x = none := by
                rw [HF.out, refArgs_no HCC.out HRA.out (refArg_num_no HC1.out (by rw [HA.out]; exact HFF.out))]
              show RLineP (Tx.refLine x) _ _ _
              rw [hno]
              exact ⟨HL.out.below.trans (HBW1.out.mono HL.out.below.size), _, rfl⟩
            | true =>
              have hfn : 0 ≤ x.op.block ∧ x.op.block ≤ 999999 := by simpa [Tx.fits] using hf
              have HFF := Lib.hid hf
              clear hf
              have hwn : IntKind.u64.wrap x.op.block = x.op.block := IntWalk.u64_in _ (by omega)
              have hdn := dec_len (x.op.block).toNat (by omega)
              have HSN := Lib.hid (fun w => spell_any x.op.block w ⟨by omega, by omega⟩)
              go_wp2_with (first
                | (go_at_call 21; refine (fits_any _ _).mono ?_; rintro e w' ⟨rfl, rfl⟩; rw [HFF.out])
                | (go_at_call 22; refine (HSN.out _).mono ?_; rintro e w1 ⟨rfl, hb1⟩))
              go_roundw
              case rel =>
                refine ⟨k + 1, s ++ [32] ++ Lib.decDigits (x.op.block).toNat, opPut x.op o c, by omega, by go_num, by rw [str_add, str_add], by simp; omega, refArgs_cons HCC.out HRA.out ((refArg_num HC1.out (by rw [HA.out]; exact HFF.out)).trans (by rw [HA.out])), by rw [HPP.out]; exact HOD.out, ?_, ?_⟩
                · rw [HPP.out]; exact (hb1.block _ (block_lt_of_heap HW1.out)).trans HW1.out
                · exact HBW1.out.trans (hb1.mono HBW1.out.size)
              case measure => simp [intOf]; omega
          · skip
            have e98 : ((c.toNat : Int) == 98) = false := by
              have : ¬ c.toNat = 98 := fun e => h98 (UInt8.toNat_inj.1 e)
              simp; omega
            have HC4 := Lib.hid h98
            clear h98
            by_cases h112 : c = 112
            · skip
              have e112 : ((c.toNat : Int) == 112) = true := by rw [h112]; rfl
              have hA : opArg x.op c = x.op.policy := by rw [h112]; rfl
              have hP : opPut x.op o c = { o with policy := x.op.policy } := by rw [h112]; rfl
              have HA := Lib.hid hA
              have HPP := Lib.hid hP
              clear hA hP
              clear h112
              have d1 : wr.cell? ⟨w.heap.size, 36, none⟩ = some (.int .i64 x.op.policy) := by simpa using HLR.out.range 36 _ (opCells_at HD.out).2.2.2.2.1
              have d2 : wr.cell? ⟨W.heap.size, 36, none⟩ = some (.int .i64 o.policy) := (cell_of_row wr _ _ _ _ _ HROW.out).trans (by simpa using (opCells_at HOD.out).2.2.2.2.1)
              have d3 : wr.frozen? ⟨W.heap.size, 36, none⟩ = false := frozen_of_row _ _ _ _ _ HROW.out
              have HW1 : Hid ((wr.setCell ⟨W.heap.size, 36, none⟩ (.int .i64 x.op.policy)).heap[W.heap.size]? = some (.cells (opCells { o with policy := x.op.policy }).toArray 35 (0, 0))) := Lib.hid ((heap_setCell_same _ _ _ _ _ _ HROW.out).trans (by rw [set_policy o x.op.policy HOD.out]))
              have HBW1 : Hid (Below W.heap.size W (wr.setCell ⟨W.heap.size, 36, none⟩ (.int .i64 x.op.policy))) := Lib.hid (HB.out.setCell (Nat.le_refl _) _)
              cases hf : Tx.fits (x.op.policy) with
              | false =>
                have HFF := Lib.hid hf
                clear hf
                go_wp2_with (go_at_call 21; refine (fits_any _ _).mono ?_; rintro e w' ⟨rfl, rfl⟩; rw [HFF.out])
                go_ret2
                have hno : Tx.refLine x = none := by
                  rw [HF.out, refArgs_no HCC.out HRA.out (refArg_num_no HC1.out (by rw [HA.out]; exact HFF.out))]
                show RLineP (Tx.refLine x) _ _ _
                rw [hno]
                exact ⟨HL.out.below.trans (HBW1.out.mono HL.out.below.size), _, rfl⟩
              | true =>
                have hfn : 0 ≤ x.op.policy ∧ x.op.policy ≤ 999999 := by simpa [Tx.fits] using hf
                have HFF := Lib.hid hf
                clear hf
                have hwn : IntKind.u64.wrap x.op.policy = x.op.policy := IntWalk.u64_in _ (by omega)
                have hdn := dec_len (x.op.policy).toNat (by omega)
                have HSN := Lib.hid (fun w => spell_any x.op.policy w ⟨by omega, by omega⟩)
                go_wp2_with (first
                  | (go_at_call 21; refine (fits_any _ _).mono ?_; rintro e w' ⟨rfl, rfl⟩; rw [HFF.out])
                  | (go_at_call 22; refine (HSN.out _).mono ?_; rintro e w1 ⟨rfl, hb1⟩))
                go_roundw
                case rel =>
                  refine ⟨k + 1, s ++ [32] ++ Lib.decDigits (x.op.policy).toNat, opPut x.op o c, by omega, by go_num, by rw [str_add, str_add], by simp; omega, refArgs_cons HCC.out HRA.out ((refArg_num HC1.out (by rw [HA.out]; exact HFF.out)).trans (by rw [HA.out])), by rw [HPP.out]; exact HOD.out, ?_, ?_⟩
                  · rw [HPP.out]; exact (hb1.block _ (block_lt_of_heap HW1.out)).trans HW1.out
                  · exact HBW1.out.trans (hb1.mono HBW1.out.size)
                case measure => simp [intOf]; omega
            · skip
              have e112 : ((c.toNat : Int) == 112) = false := by
                have : ¬ c.toNat = 112 := fun e => h112 (UInt8.toNat_inj.1 e)
                simp; omega
              have HC5 := Lib.hid h112
              clear h112
              have hA : opArg x.op c = 0 := by unfold opArg; rw [if_neg HC3.out, if_neg HC4.out, if_neg HC5.out]
              have hP : opPut x.op o c = o := by unfold opPut; rw [if_neg HC3.out, if_neg HC4.out, if_neg HC5.out]
              have HA := Lib.hid hA
              have HPP := Lib.hid hP
              clear hA hP
              cases hf : Tx.fits (0 : Int) with
              | false =>
                have HFF := Lib.hid hf
                clear hf
                exact absurd HFF.out (by decide)
              | true =>
                have hfn : 0 ≤ (0 : Int) ∧ (0 : Int) ≤ 999999 := by omega
                have HFF := Lib.hid hf
                clear hf
                have hwn : IntKind.u64.wrap (0 : Int) = (0 : Int) := IntWalk.u64_in _ (by omega)
                have hdn := dec_len ((0 : Int)).toNat (by omega)
                have hdn0 : (Lib.decDigits 0).length ≤ 20 := dec_len 0 (by omega)
                have HSN := Lib.hid (fun w => spell_any (0 : Int) w ⟨by omega, by omega⟩)
                go_wp2_with (first
                  | (go_at_call 21; refine (fits_any _ _).mono ?_; rintro e w' ⟨rfl, rfl⟩; rw [HFF.out])
                  | (go_at_call 22; refine (HSN.out _).mono ?_; rintro e w1 ⟨rfl, hb1⟩))
                go_roundw
                case rel =>
                  refine ⟨k + 1, s ++ [32] ++ Lib.decDigits ((0 : Int)).toNat, opPut x.op o c, by omega, by go_num, by rw [← str_add, ← str_add]; rfl, by simp; omega, refArgs_cons HCC.out HRA.out ((refArg_num HC1.out (by rw [HA.out]; exact HFF.out)).trans (by rw [HA.out])), by rw [HPP.out]; exact HOD.out, ?_, ?_⟩
                  · rw [HPP.out]; exact (hb1.block _ (block_lt_of_heap HROW.out)).trans HROW.out
                  · exact HB.out.trans (hb1.mono HB.out.size)
                case measure => simp [intOf]; omega
    · have hke : k = tl.length := by omega
      have HE := Lib.hid (refArgs_end (hke ▸ HRA.out))
      have hlt2 : ¬ (k : Int) < (tl.length : Int) := by omega
      clear hke
      have HEQ := Lib.hid (run_eq_op o x.op HOD.out HD.out)
      go_wp2
      refine wp_region_quiet_lit (by kernel_rfl) (by kernel_rfl) ?_
      go_big_quiet_step (fail)
      go_big_quiet_step (fail)
      refine wpQuiet_val (.agg (opCells o).toArray) rfl (fun w' hw' => ?_) ?_
      · obtain ⟨n, rfl⟩ := hw'
        exact exec_load_mid 35 _ rfl W.heap.size 0 rfl (opCells o) _ (rangeAt_drewN (rangeAt_row HROW.out) n) Tryd.underlying35 rfl (info35.trans (by rw [opCells_len HOD.out]))
      simp only [Act.put, List.setIfInBounds_toArray, List.set_cons_succ, List.set_cons_zero]
      go_big_quiet_step (fail)
      refine wpQuiet_val (.agg (opCells x.op).toArray) rfl (fun w' hw' => ?_) ?_
      · obtain ⟨n, rfl⟩ := hw'
        exact exec_load_mid 35 _ rfl w.heap.size 0 rfl (opCells x.op) _ (rangeAt_drewN HLR.out.range n) Tryd.underlying35 rfl (info35.trans (by rw [opCells_len HD.out]))
      simp only [Act.put, List.setIfInBounds_toArray, List.set_cons_succ, List.set_cons_zero]
      refine wpQuiet_val (.bool (Tx.opEq o x.op)) rfl (fun w' _ => ?_) ?_
      · exact exec_binop .eql 35 35 _ _ rfl (.agg (opCells o).toArray) (.agg (opCells x.op).toArray) _ rfl rfl (run_eqGuard_agg _ _ _ _ _ _ _ guard35) (HEQ.out _)
      simp only [Act.put, List.setIfInBounds_toArray, List.set_cons_succ, List.set_cons_zero]
      go_big_quiet_step (fail)
      go_big_quiet_step (fail)
      refine wpQuiet_nil ?_
      rintro _ ⟨nq, rfl⟩
      go_wp2
      go_ret2
      have h0 : Tx.refLine x = if Tx.opEq o x.op then some (s ++ [10]) else none := by rw [HF.out, HE.out]
      show RLineP (Tx.refLine x) _ _ _
      rw [h0]
      have hbb : Below w.heap.size w wr := HL.out.below.trans (HB.out.mono HL.out.below.size)
      cases ho : Tx.opEq o x.op with
      | true => exact ⟨hbb.trans (below_drewN _ _ _), by show Ending.returned _ = Ending.returned _; congr 2⟩
      | false => exact ⟨hbb.trans (below_drewN _ _ _), _, rfl⟩

end Go.Proofs.YtjjlmhlfobmpgaaDoor
