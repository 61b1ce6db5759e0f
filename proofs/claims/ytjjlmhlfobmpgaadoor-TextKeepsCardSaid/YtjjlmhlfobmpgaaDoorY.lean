/-
The rows' frame: what the listed variables give the walks; the wrap.
-/
import Derived.Test.YtjjlmhlfobmpgaaDoorX3
import Derived.Test.YtjjlmhlfobmpgaaDoorRows
import Derived.ProofKit
import Derived.LaidMore
import Derived.Lay
import Derived.HandedShaped
import Derived.Shelf.Vars
import Derived.Stop.Joined
import Derived.Lib.LaidTab
import Derived.Lib.LaidU8
namespace Go.Proofs.YtjjlmhlfobmpgaaDoor
open Go.ChangeShapes Go.WideShapes Go.ChangeAt Go.RowKit

abbrev laid : List (String × DataW Unit) := Rows.textPrintsRow.laid

theorem own : ownKnob Tryd.prog.godebug = none := by kernel_rfl
theorem laidOut : laidOutB Tryd.prog = true := by kernel_rfl
theorem gPow : ∃ g, Tryd.prog.globalNamed "internal/strconv.uint64pow10" = some g ∧ (Tryd.prog.globals[g]?).map (·.type) = some 121 := by
  first | exact ⟨0, by decide +kernel, by decide +kernel⟩ | exact ⟨1, by decide +kernel, by decide +kernel⟩ | exact ⟨2, by decide +kernel, by decide +kernel⟩ | exact ⟨3, by decide +kernel, by decide +kernel⟩ | exact ⟨4, by decide +kernel, by decide +kernel⟩ | exact ⟨5, by decide +kernel, by decide +kernel⟩ | exact ⟨6, by decide +kernel, by decide +kernel⟩ | exact ⟨7, by decide +kernel, by decide +kernel⟩ | exact ⟨8, by decide +kernel, by decide +kernel⟩ | exact ⟨9, by decide +kernel, by decide +kernel⟩
theorem gSyn : ∃ g, Tryd.prog.globalNamed "strconv.ErrSyntax" = some g ∧ (Tryd.prog.globals[g]?).map (·.type) = some 65 := by
  first | exact ⟨0, by decide +kernel, by decide +kernel⟩ | exact ⟨1, by decide +kernel, by decide +kernel⟩ | exact ⟨2, by decide +kernel, by decide +kernel⟩ | exact ⟨3, by decide +kernel, by decide +kernel⟩ | exact ⟨4, by decide +kernel, by decide +kernel⟩ | exact ⟨5, by decide +kernel, by decide +kernel⟩ | exact ⟨6, by decide +kernel, by decide +kernel⟩ | exact ⟨7, by decide +kernel, by decide +kernel⟩ | exact ⟨8, by decide +kernel, by decide +kernel⟩ | exact ⟨9, by decide +kernel, by decide +kernel⟩
theorem gRng : ∃ g, Tryd.prog.globalNamed "strconv.ErrRange" = some g ∧ (Tryd.prog.globals[g]?).map (·.type) = some 65 := by
  first | exact ⟨0, by decide +kernel, by decide +kernel⟩ | exact ⟨1, by decide +kernel, by decide +kernel⟩ | exact ⟨2, by decide +kernel, by decide +kernel⟩ | exact ⟨3, by decide +kernel, by decide +kernel⟩ | exact ⟨4, by decide +kernel, by decide +kernel⟩ | exact ⟨5, by decide +kernel, by decide +kernel⟩ | exact ⟨6, by decide +kernel, by decide +kernel⟩ | exact ⟨7, by decide +kernel, by decide +kernel⟩ | exact ⟨8, by decide +kernel, by decide +kernel⟩ | exact ⟨9, by decide +kernel, by decide +kernel⟩

theorem cs121 : Tryd.prog.cellsOf 121 = 20 := by kernel_rfl
theorem pow_data : (Rows.laid_internal_strconv_uint64pow10 : DataW Unit) = Lib.tabData .u64 Lib.pow10Tab := by kernel_rfl

set_option maxRecDepth 100000
theorem var_typed {P : Program} {W : World} {n : String} {d : DataW Unit} {t : TypeId} (h : Lib.VarReads P W n d) (hg : ∃ g, P.globalNamed n = some g ∧ (P.globals[g]?).map (·.type) = some t) :
    ∃ cs fuel p, W.var? P n = some cs ∧ DataW.trod (fun _ => ()) P W 0 (fun _ => true) false fuel t cs.toList = some (d, p) := by
  obtain ⟨g, t', cs, fuel, p, h1, h2, h3, h4⟩ := h
  obtain ⟨g0, k1, k2⟩ := hg
  obtain rfl := Option.some.inj (h1.symm.trans k1)
  obtain rfl := Option.some.inj (h2.symm.trans k2)
  exact ⟨cs, fuel, p, h3, h4⟩

theorem var_iface {W : World} {n : String} {nm : String} {d : DataW Unit} (h : Lib.VarReads Tryd.prog W n (.iface nm d)) (hg : ∃ g, Tryd.prog.globalNamed n = some g ∧ (Tryd.prog.globals[g]?).map (·.type) = some 65) :
    ∃ tp p, W.var? Tryd.prog n = some #[.iface tp p] := by
  obtain ⟨cs, fuel, p, h3, h4⟩ := var_typed h hg
  obtain ⟨_, u, v, hcs, _, _⟩ := iface_of_trod Tryd.underlying65 h4
  exact ⟨u, v, by rw [h3]; congr 1; exact Array.toList_inj.1 hcs⟩

/-- What the condition gives the walks. -/
theorem ld_of {W : World} (h : laidMetH Tryd.prog laid W) (hsh : W.ShapedOpen Tryd.prog) : Ld W := by
  rw [MakeChecks.laidMetH_plain _ _ _ (by kernel_rfl)] at h
  refine ⟨?_, ?_, ?_, ?_⟩
  · have h1 := Lib.laidMet.reads h (n := "internal/strconv.uint64pow10") (d := Rows.laid_internal_strconv_uint64pow10) (by simp [laid, Rows.textPrintsRow])
    obtain ⟨cs, fuel, p, h3, h4⟩ := var_typed h1 gPow
    rw [pow_data] at h4
    unfold Lib.TabIs
    rw [h3, ← Lib.cells_of_tab Tryd.underlying121 Tryd.underlying37 cs37 cs121 h4]
  · exact var_iface (Lib.laidMet.reads h (n := "strconv.ErrSyntax") (d := Rows.laid_strconv_ErrSyntax) (by simp [laid, Rows.textPrintsRow])) gSyn
  · exact var_iface (Lib.laidMet.reads h (n := "strconv.ErrRange") (d := Rows.laid_strconv_ErrRange) (by simp [laid, Rows.textPrintsRow])) gRng
  · exact cell_of_shapedOpen_int (P := Tryd.prog) (g := 0) (t := 3) (zero := #[.int .i64 0]) hsh (of_decide_eq_true (by kernel_rfl)) (by kernel_rfl) rfl (by kernel_rfl) (by kernel_rfl) Tryd.underlying3

/-- A step's value, of its cells. -/
theorem step_agg {v : Value} {x : Tx.StepV} {kv : Value} (hd : x.op.data.length = 32) (h : v.cells.toList = stepCells x kv) : v = .agg (stepCells x kv).toArray := by
  have hl : (stepCells x kv).length = 42 := by simpa using stepCells_len (kv := kv) hd
  rw [← h] at hl ⊢
  cases v <;> simp [Value.cells] at hl ⊢

section
variable {H : Type} {enc : TypeId × Value → H}
/-- The wrap that hands the contract the listed variables, the reach and the world's shape. -/
theorem returns_laid_shaped {a : Assume} {C : Checked} {os : Os} {f : FuncId} {fn : Func} {s : ChangeSpec} {conds : List PathCond} {apart fresh handsOn again : Bool} {X : World → Array Value → Prop}
    (hX : ∀ (w w' : World) (args : Array Value), w.heap = w'.heap → X w args → X w' args)
    (own : ownKnob C.prog.godebug = none) (started : os.Started) (noInit : C.prog.inits.idxOf? f = none) (hfn : C.prog.funcs[f]? = some fn)
    (witness : ∃ (w : World) (tape : Tape) (i : Input), w.os = os ∧ (w.forCall tape i).Shaped C.prog ∧ i.vars = [] ∧ Input.okWide C.prog (w.forCall tape i) .any w.heap.size f i ∧
      ((s.pre enc C.prog fn conds apart (w.forCall tape i).memory i.args ∧ X (w.forCall tape i).memory i.args) ∧ sizedMet enc C.prog fn (OpenSpec.ofChange s) apart (w.forCall tape i).memory i.args) ∧ a.holds C.prog (lone (Frame.enter C.prog f i.args .normal) [] (w.forCall tape i)))
    (contract : ∀ (W : World) (base : Nat) (args : Array Value) (ds gs : List (DataW H)) (before : List MemPlace),
      (∀ (j : Nat) t v, fn.params[j]? = some t → args[j]? = some v → Value.okWide C.prog W .any base t v) →
      DataW.Whole enc C.prog fn.params.toList s.vars apart W args.toList ds gs before →
      (DataW.weightsEach C.prog (fn.params.toList ++ s.plain.varTypes C.prog) (ds ++ gs)).all (· ≤ reachBytes) = true → X W args → W.ShapedOpen C.prog →
      Calls C.prog f args W fun e W' => ∃ v, e = .returned v ∧ s.post enc C.prog fn apart fresh handsOn again W args v W') :
    ReturnsInHanded a C os f .any (fun w args => (s.pre enc C.prog fn conds apart w args ∧ X w args) ∧ sizedMet enc C.prog fn (OpenSpec.ofChange s) apart w args) (s.post enc C.prog fn apart fresh handsOn again) := by
  refine returnsInHanded_of_calls own started noInit witness ?_
  intro w tape i _ hsh _ hok hpre _
  obtain ⟨_, _, _, fn', hfn', _, _, _, _, hval⟩ := hok
  have e : fn' = fn := Option.some.inj (hfn'.symm.trans hfn)
  subst e
  obtain ⟨⟨⟨ds, gs, before, hw, _⟩, hx⟩, hz⟩ := hpre
  have hw' := DataW.Whole.of_heap (w' := w.forCall tape i) (by rfl) hw
  refine (contract (w.forCall tape i) w.heap.size i.args ds gs before hval hw' (hz.weights hw) (hX _ _ _ (by rfl) hx) hsh).mono fun e W' ⟨v, he, hp⟩ => ?_
  subst he
  exact ChangeSpec.post_blind hp
end

end Go.Proofs.YtjjlmhlfobmpgaaDoor
