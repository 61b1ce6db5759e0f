/-
Walks: text.Parse.
-/
import Derived.Test.YtjjlmhlfobmpgaaDoorS
namespace Go.Proofs.YtjjlmhlfobmpgaaDoor
open Go.RowKit

def rowCells (ps : List (Tx.StepV × Value)) : List Value := ps.flatMap fun p => stepCells p.1 p.2

/-- Steps of the call's own, with their lists. -/
structure OutR (w : World) (base : Nat) (v : Value) (ps : List (Tx.StepV × Value)) : Prop where
  row : w.ownsRow base 41 42 v ps.length (rowCells ps)
  keeps : ∀ p ∈ ps, w.ownsRow base 3 1 p.2 p.1.keep.length (p.1.keep.map (.int .i64))
  data : ∀ p ∈ ps, p.1.op.data.length = 32

def ParseP (r : Except Nat (List Tx.StepV)) (w : World) (e : Ending) (w' : World) : Prop :=
  Below w.heap.size w w' ∧ match r with
  | .ok out => ∃ v ps, e = .returned (.tuple #[v, .int .i64 0, .int .i64 0]) ∧ ps.map (·.1) = out ∧ OutR w' w.heap.size v ps
  | .error n => e = .returned (.tuple #[.slice none 0 0, .int .i64 n, .int .i64 16])

theorem info41z : (Tryd.prog.info? 41).map (fun i => (i.zero, i.size, i.bytes)) = some (some (.agg Z42), 42, 128) := by kernel_rfl

/-- strings.Cut at a line feed. -/
theorem cut_any (s : Tx.Bytes) (w : World) (hs : s.length ≤ 1000000) (L : Ld w) :
    Calls Tryd.prog 19 #[.string ⟨s.toArray⟩, .string ⟨#[10]⟩] w fun e w' => e = .returned (.tuple #[.string ⟨(Lib.cut s [10]).1.toArray⟩, .string ⟨(Lib.cut s [10]).2.1.toArray⟩, .bool (Lib.cut s [10]).2.2]) ∧ Below w.heap.size w w' := by
  obtain ⟨m, hm⟩ := L.max
  have hsz : (⟨s.toArray⟩ : ByteArray).size = s.length := by simp [ByteArray.size]
  exact (Tryd.strings_Cut ⟨s.toArray⟩ ⟨#[10]⟩ m w (by omega) hm).mono fun e w' ⟨he, n, hw⟩ => ⟨he, hw ▸ below_drewN w n _⟩

theorem cut_len : ∀ {s a b : Tx.Bytes}, Tx.cutL s = some (a, b) → a.length + b.length + 1 = s.length
  | [], a, b, h => by simp [Tx.cutL] at h
  | c :: r, a, b, h => by
    unfold Tx.cutL at h
    split at h
    · injection h with h
      injection h with h1 h2
      subst h1; subst h2; simp
    · split at h
      · rename_i a' b' hr
        injection h with h
        injection h with h1 h2
        subst h1; subst h2
        have := cut_len hr
        simp; omega
      · cases h

theorem step_build (x : Tx.StepV) (kv : Value) (h : (stepCells x kv).length = 42) :
    List.foldl (fun (cs : Array Value) (x : Value × Nat) => cs.setIfInBounds x.snd x.fst)
      #[.int .i64 0, .int .i64 0, .int .i64 0, .int .u8 0, .int .u8 0, .int .u8 0, .int .u8 0, .int .u8 0, .int .u8 0, .int .u8 0, .int .u8 0, .int .u8 0, .int .u8 0, .int .u8 0, .int .u8 0, .int .u8 0, .int .u8 0, .int .u8 0, .int .u8 0, .int .u8 0, .int .u8 0, .int .u8 0, .int .u8 0, .int .u8 0, .int .u8 0, .int .u8 0, .int .u8 0, .int .u8 0, .int .u8 0, .int .u8 0, .int .u8 0, .int .u8 0, .int .u8 0, .int .u8 0, .int .u8 0, .bool false, .int .i64 0, .int .i64 0, .bool false, .slice none 0 0, .int .u64 0, .int .i64 0] (stepCells x kv).zipIdx = (stepCells x kv).toArray := by
  rw [fold_put _ 0 _ (by rw [h]; decide)]
  rw [Nat.zero_add, h]
  simp

theorem own_apart {w : World} {b1 b2 s1 s2 n1 n2 : Nat} {e1 e2 : TypeId} {v1 v2 : Value} {l1 l2 : List Value} (h1 : w.ownsRow b1 e1 s1 v1 n1 l1) (h2 : w.ownsRow b2 e2 s2 v2 n2 l2) (hne : e1 ≠ e2) : v1.ownBlock = none ∨ v1.ownBlock ≠ v2.ownBlock := by
  rcases h1.2 with ⟨rfl, _⟩ | ⟨g1, c1, cur1, rfl, _, hg1, _⟩
  · exact .inl rfl
  · right
    rcases h2.2 with ⟨rfl, _⟩ | ⟨g2, c2, cur2, rfl, _, hg2, _⟩
    · simp [Value.ownBlock]
    · intro e
      simp only [Value.ownBlock, Option.some.injEq] at e
      rw [e, hg2] at hg1
      simp only [Option.some.injEq, Obj.cells.injEq] at hg1
      exact hne hg1.2.1.symm

theorem rowCells_snoc (ps : List (Tx.StepV × Value)) (x : Tx.StepV) (kv : Value) : rowCells (ps ++ [(x, kv)]) = rowCells ps ++ stepCells x kv := by simp [rowCells]

def parseA (s : Tx.Bytes) : Except Nat (List Tx.StepV) := Tx.parseF 1 (s.length + 1) s []

set_option maxHeartbeats 8000000 in
set_option maxRecDepth 100000 in
/-- text.Parse. -/
theorem parse_any (s : Tx.Bytes) (w : World) (hs : s.length ≤ 1000000) (L : Ld w) :
    Calls Tryd.prog 11 #[.string ⟨s.toArray⟩] w (ParseP (parseA s) w) := by
  obtain ⟨i0, hi0, hz0, hz1, hz2⟩ := info_parts info41z
  go_enter Tryd.func11, Tryd.ntmps11
  go_wp2
  go_loopw [0, 2, 3, 4, 5, 6, 7, 8, 9, 10] (fun v0 v2 v3 v4 v5 v6 _ _ _ _ wr => ∃ (k f : Nat) (b : Tx.Bytes) (ps : List (Tx.StepV × Value)), v0 = .string ⟨b.toArray⟩ ∧ v6 = .int .i64 (k + 1) ∧ k + b.length ≤ s.length ∧ b.length < f ∧ ps.length = k ∧
      Tx.parseF (k + 1) f b (ps.map (·.1)) = parseA s ∧ OutR wr w.heap.size v5 ps ∧ Below w.heap.size w wr) (fun v0 _ _ _ _ _ _ _ _ _ _ => match v0 with | .string b => b.size | _ => 0)
  case atStart =>
    exact ⟨0, s.length + 1, s, [], rfl, rfl, by omega, by omega, rfl, rfl, ⟨World.ownsRow_nil _ _ _ _, by simp, by simp⟩, Below.refl _ _⟩
  case round =>
    obtain ⟨k, f, b, ps, rfl, rfl, hkb, hbf, hpk, hpf, hout, hb⟩ := hrel
    have HP := Lib.hid hpf
    have HOUT := Lib.hid hout
    have HPK := Lib.hid hpk
    have HB := Lib.hid hb
    have LX := L.below hb
    have hzr := hb.size
    clear hpf hout hpk hb
    obtain ⟨f, rfl⟩ : ∃ f', f = f' + 1 := ⟨f - 1, by omega⟩
    cases b with
    | nil =>
      go_wp2
      go_ret3
      have h0 : parseA s = .ok (ps.map (·.1)) := by rw [← HP.out]; simp [Tx.parseF]
      show ParseP (parseA s) _ _ _
      rw [h0]
      exact ⟨HB.out, _, ps, rfl, rfl, HOUT.out⟩
    | cons c r =>
      obtain ⟨b, hbc⟩ : ∃ b, b = c :: r := ⟨_, rfl⟩
      have hne : (b == ([] : List UInt8)) = false := by rw [hbc]; rfl
      have hbn : b ≠ [] := by rw [hbc]; simp
      rw [← hbc] at HP hkb hbf
      simp only [← hbc]
      have HBN := Lib.hid hbn
      clear hbc hbn
      go_wp2_with fail
      go_at_call 19
      refine (cut_any b wr (by omega) LX).mono ?_
      rintro e w1 ⟨rfl, hb1⟩
      have hcut := Tx.cut_eq b
      have HB1 := Lib.hid (HB.out.trans (hb1.mono hzr))
      have HB1' := Lib.hid hb1
      cases hc : (Lib.cut b [10]).2.2 with
      | false =>
        rw [hc] at hcut
        have HC := Lib.hid hcut
        clear hcut hb1
        go_wp2
        go_ret3
        have h0 : parseA s = .error (k + 1) := by
          rw [← HP.out]
          have h1 := HC.out
          simp only [Bool.false_eq_true, if_false] at h1
          simp [Tx.parseF, HBN.out, h1]
        show ParseP (parseA s) _ _ _
        rw [h0]
        exact ⟨HB1.out, rfl⟩
      | true =>
        rw [hc] at hcut
        obtain ⟨x1, hx1⟩ : ∃ x, x = (Lib.cut b [10]).1 := ⟨_, rfl⟩
        obtain ⟨x2, hx2⟩ : ∃ x, x = (Lib.cut b [10]).2.1 := ⟨_, rfl⟩
        rw [← hx1, ← hx2] at hcut ⊢
        have hcut2 : Tx.cutL b = some (x1, x2) := by simpa using hcut
        have hlen := cut_len hcut2
        have HC := Lib.hid hcut2
        have L1 := LX.below hb1
        have hz1r := hb1.size
        clear hcut hb1 hcut2 hx1 hx2
        go_wp2_with fail
        go_at_call 20
        refine (step_any x1 w1 (by omega) L1).mono ?_
        intro e w2 hP
        cases hst : Tx.stepF x1 with
        | none =>
          rw [hst] at hP
          obtain ⟨cs, hcs, hone, rfl, hb2⟩ := hP
          have HST := Lib.hid hst
          have HCS := Lib.hid hcs
          have HON := Lib.hid hone
          have HN : Hid ((w2.alloc (.cells Z42 41)).heap[w2.heap.size]? = some (.cells Z42 41 (0, 0))) := Lib.hid (heap_alloc_new _ _)
          have HB2 := Lib.hid (HB1.out.trans (hb2.mono HB1.out.size))
          clear hst hcs hone hb2
          go_wp2_with ((with_reducible show wpList _ _ _ ({ dst := _, op := Op.store 41 _ _, type := _, pos := _, after := _, guard := _ } :: _) _ _); refine M.wpList_store_row rfl 41 _ _ rfl w2.heap.size rfl 41 Z42 cs rfl HN.out (info41.trans (congrArg some HCS.out.symm)) HCS.out.symm HON.out ?_)
          go_ret3
          have h0 : parseA s = .error (k + 1) := by
            rw [← HP.out]
            simp [Tx.parseF, HBN.out, HC.out, HST.out]
          show ParseP (parseA s) _ _ _
          rw [h0]
          exact ⟨M.below_setRow (HB2.out.alloc HB2.out.size _) HB2.out.size _, rfl⟩
        | some x =>
          rw [hst] at hP
          obtain ⟨kv, rfl, hown, hb2⟩ := hP
          have HST := Lib.hid hst
          have hxd := Tx.step_data hst
          have HXD := Lib.hid hxd
          have HCS := Lib.hid (stepCells_len (kv := kv) hxd)
          have HON := Lib.hid (one_step x kv (one_own hown))
          have HN : Hid ((w2.alloc (.cells Z42 41)).heap[w2.heap.size]? = some (.cells Z42 41 (0, 0))) := Lib.hid (heap_alloc_new _ _)
          have HN2 : Hid (((w2.alloc (.cells Z42 41)).setRow w2.heap.size (stepCells x kv).toArray).heap[w2.heap.size]? = some (.cells (stepCells x kv).toArray 41 (0, 0))) := Lib.hid (M.heap_setRow_same _ _ _ _ _ HN.out)
          have HB2 := Lib.hid (HB1.out.trans (hb2.mono HB1.out.size))
          have HOWN := Lib.hid hown
          have HB2' := Lib.hid hb2
          have hl42 : (stepCells x kv).length = 42 := by simpa using HCS.out
          have hfold := step_build x kv hl42
          have hz12 := hb2.size
          have hrow1 := M.own_below (M.own_below HOUT.out.row HB1'.out) hb2
          have hnb : u5.ownBlock ≠ some w2.heap.size := fun e => by have := (hrow1.lt _ e).2; omega
          have hrow2 := own_setRow (hrow1.alloc (.cells Z42 41)) hnb (stepCells x kv).toArray
          have HROW := Lib.hid hrow2
          have HB3 : Hid (Below w2.heap.size w2 ((w2.alloc (.cells Z42 41)).setRow w2.heap.size (stepCells x kv).toArray)) := Lib.hid (M.below_setRow (below_new _ _) (Nat.le_refl _) _)
          have hps : ps.length ≤ 1000000 := by rw [HPK.out]; omega
          clear hst hxd hown hb2 hrow1 hrow2
          go_wp2_with (first
            | ((with_reducible show wpList _ _ _ ({ dst := _, op := Op.store 41 _ _, type := _, pos := _, after := _, guard := _ } :: _) _ _); refine M.wpList_store_row rfl 41 _ _ rfl w2.heap.size rfl 41 Z42 (stepCells x kv).toArray rfl HN.out (info41.trans (congrArg some HCS.out.symm)) HCS.out.symm HON.out ?_)
            | ((with_reducible show wpList _ _ _ ({ dst := _, op := Op.load 41 _, type := _, pos := _, after := _, guard := _ } :: _) _ _); refine wpList_load_row rfl 41 _ rfl w2.heap.size rfl 41 (stepCells x kv).toArray (0, 0) _ HN2.out Tryd.underlying41 rfl (info41.trans (congrArg some HCS.out.symm)) ?_)
            | (at_builtin
               refine wpList_append_own _ rfl _ _ 23 rfl w.heap.size 41 i0 _ 42 128 Tryd.underlying23 hi0 hz0 hz1 hz2 rfl (by decide) u5 ps.length _ rfl (HROW.out.alloc (.cells (stepCells x kv).toArray 41)) ⟨w2.heap.size + 1, 0, none⟩ 1 1 (stepCells x kv) rfl ?_ ?_ ?_ (by unfold maxLen; omega) (by omega) (by simp; omega) ?_
               · rw [hl42]
               · exact fun j u h => World.news_of_block (cs := (stepCells x kv).toArray) (by rw [M.heap_alloc_if, if_pos (by simp)]) j u (by simpa using h)
               · exact fun u hu => Array.all_eq_true_iff_forall_mem.1 HON.out u (by simpa using hu)
               intro v1 w3 hown3 hg3 _))
          have hkeep : ∀ p ∈ ps ++ [(x, kv)], w3.ownsRow w.heap.size 3 1 p.2 p.1.keep.length (p.1.keep.map (.int .i64)) := by
            intro p hp
            have h2 : w2.ownsRow w.heap.size 3 1 p.2 p.1.keep.length (p.1.keep.map (.int .i64)) := by
              rcases List.mem_append.1 hp with hp | hp
              · exact M.own_below (M.own_below (HOUT.out.keeps p hp) HB1'.out) HB2'.out
              · simp only [List.mem_singleton] at hp
                subst hp
                exact M.own_base HOWN.out (by have := HB1'.out.size; omega)
            have h3 := (M.own_below h2 HB3.out).alloc (.cells (stepCells x kv).toArray 41)
            exact h3.kept hg3 (own_apart h3 (HROW.out.alloc (.cells (stepCells x kv).toArray 41)) (by decide))
          refine ⟨⟨k + 1, f, x2, ps ++ [(x, kv)], rfl, by go_num, by omega, by omega, by simp [HPK.out], ?_, ⟨?_, hkeep, ?_⟩, ?_⟩, ?_⟩
          · rw [← HP.out]
            simp [Tx.parseF, HBN.out, HC.out, HST.out]
          · rw [rowCells_snoc]
            exact M.own_eq hown3 (by simp) rfl
          · intro p hp
            rcases List.mem_append.1 hp with hp | hp
            · exact HOUT.out.data p hp
            · simp only [List.mem_singleton] at hp
              subst hp
              exact HXD.out
          · have h := (HB2.out.trans (HB3.out.mono HB2.out.size)).alloc (by have := HB3.out.size; have := HB2.out.size; omega) (.cells (stepCells x kv).toArray 41)
            exact h.grown hg3 (by have := HB3.out.size; have := HB2.out.size; simp; omega) (fun q hq => (HROW.out.lt q hq).1)
          · have e1 : (⟨x2.toArray⟩ : ByteArray).size = x2.length := by simp [ByteArray.size]
            have e2 : (⟨b.toArray⟩ : ByteArray).size = b.length := by simp [ByteArray.size]
            show (⟨x2.toArray⟩ : ByteArray).size < (⟨b.toArray⟩ : ByteArray).size
            omega

end Go.Proofs.YtjjlmhlfobmpgaaDoor
