/-
Walks: text.fields.
-/
import Derived.Test.YtjjlmhlfobmpgaaDoorG
import Derived.Test.YtjjlmhlfobmpgaaDoorD
namespace Go.Proofs.YtjjlmhlfobmpgaaDoor
open Go.RowKit

def opCells (o : Tx.OpV) : List Value := [.int .i64 o.kind, .int .i64 o.id, .int .i64 o.block] ++ o.data.map bv ++ [.bool o.sync, .int .i64 o.policy]

structure OpOk (o : Tx.OpV) : Prop where
  kind : I64 o.kind
  id : I64 o.id
  block : I64 o.block
  policy : I64 o.policy
  data : o.data.length = 32

theorem info9 : (Tryd.prog.info? 9).map (fun i => (i.zero, i.size, i.bytes)) = some (some (.string ByteArray.empty), 1, 16) := by kernel_rfl
theorem info89 : (Tryd.prog.info? 89).map (·.size) = some 4 := by kernel_rfl

theorem opCells_at {o : Tx.OpV} (h : o.data.length = 32) : (opCells o)[0]? = some (.int .i64 o.kind) ∧ (opCells o)[1]? = some (.int .i64 o.id) ∧ (opCells o)[2]? = some (.int .i64 o.block) ∧
    (opCells o)[35]? = some (.bool o.sync) ∧ (opCells o)[36]? = some (.int .i64 o.policy) ∧ ∀ j v, (o.data.map bv)[j]? = some v → (opCells o)[3 + j]? = some v := by
  refine ⟨rfl, rfl, rfl, ?_, ?_, ?_⟩
  · simp [opCells, h]
  · simp [opCells, h]
  · intro j v hv
    have hj : j < 32 := by have := (List.getElem?_eq_some_iff.1 hv).1; simpa [h] using this
    simp only [opCells]
    rw [List.getElem?_append_left (by simp [h]; omega), List.getElem?_append_right (by simp)]
    simpa using hv

theorem words_at {k : Nat} {x : Tx.Bytes × Int × Bool × Tx.Bytes} (h : Tx.words[k]? = some x) (j : Nat) (hj : j < 4) : wordCells[k * 4 + j]? = (wcells x)[j]? := by
  have := M.flatMap_at wcells 4 (fun _ => rfl) Tx.words k j x h hj
  simpa [wordCells] using this

theorem rel_next {o : Tx.OpV} {n tl : Tx.Bytes} {j : Nat} {c : UInt8} {x : Tx.Bytes} (h : tl[j]? = some c) (hx : Tx.tellF o c = x) :
    (n :: (tl.take j).map (Tx.tellF o)).map str ++ [.string ⟨x.toArray⟩] = (n :: (tl.take (j + 1)).map (Tx.tellF o)).map str := by
  subst hx
  rw [List.take_add_one, h]
  simp [str]

theorem words_len (k : Nat) (x : Tx.Bytes × Int × Bool × Tx.Bytes) (h : Tx.words[k]? = some x) : x.2.2.2.length ≤ 3 := by
  have hm : x ∈ Tx.words := List.mem_of_getElem? h
  have := Tx.words_spec x hm
  obtain ⟨_, _, _, _, _, _, _, hh⟩ := this
  rcases hh with h | h | h | h | h <;> rw [h] <;> decide

/-- Strings in a row of the call's own. -/
def FieldsP (l : List Tx.Bytes) (w : World) (e : Ending) (w' : World) : Prop := ∃ v, e = .returned v ∧ w'.ownsRow w.heap.size 9 1 v l.length (l.map str) ∧ Below w.heap.size w w'

set_option maxHeartbeats 4000000 in
set_option maxRecDepth 100000 in
theorem fields_any (o : Tx.OpV) (w : World) (ho : OpOk o) (L : Ld w) :
    Calls Tryd.prog 38 #[.agg (opCells o).toArray] w (FieldsP (Tx.fieldsF o) w) := by
  obtain ⟨i0, hi0, hz0, hz1, hz2⟩ := info_parts info9
  have HO := Lib.hid ho
  clear ho
  go_enter Tryd.func38, Tryd.ntmps38
  go_wp2_with (go_at_call 46; refine (words_any _).mono ?_; rintro e w' ⟨rfl, rfl⟩)
  go_loopw [9] (fun i wr => ∃ k : Nat, k ≤ 13 ∧ i = .int .i64 k ∧ (∀ j x, j < k → Tx.words[j]? = some x → (x.2.1 == o.kind && x.2.2.1 == o.sync) = false) ∧
      Below (w.heap.size + 2) ((w.alloc (.cells (opCells o).toArray 35)).alloc (.cells wordCells 89)) wr) (fun i _ => 13 - (intOf i).toNat)
  case atStart => exact ⟨0, Nat.zero_le _, rfl, fun j x hj => absurd hj (Nat.not_lt_zero _), Below.refl _ _⟩
  case round =>
    obtain ⟨k, hk, rfl, hall, hb⟩ := hrel
    have HA := Lib.hid hall
    clear hall
    have hsz : w.heap.size + 2 ≤ wr.heap.size := by simpa using hb.size
    by_cases hlt : k < 13
    · have hk13 : (k : Int) < 13 := by omega
      obtain ⟨⟨n, kd, sy, tl⟩, hx⟩ : ∃ x, Tx.words[k]? = some x := ⟨_, List.getElem?_eq_getElem hlt⟩
      have HX := Lib.hid hx
      have hB1 : wr.heap[w.heap.size + 1]? = some (.cells wordCells 89 (0, 0)) := by
        rw [hb.block _ (by omega), M.heap_alloc_if, if_pos (by simp)]
      have hB0 : wr.heap[w.heap.size]? = some (.cells (opCells o).toArray 35 (0, 0)) := by
        rw [hb.block _ (by omega), M.heap_alloc_if, if_neg (by simp), M.heap_alloc_if, if_pos rfl]
      have hc0 : wr.cell? ⟨w.heap.size + 1, k * 4, none⟩ = some (str n) := by rw [cell_of_row wr _ _ _ _ _ hB1]; exact words_at hx 0 (by omega)
      have hc1 : wr.cell? ⟨w.heap.size + 1, k * 4 + 1, none⟩ = some (.int .i64 kd) := by rw [cell_of_row wr _ _ _ _ _ hB1]; exact words_at hx 1 (by omega)
      have hc2 : wr.cell? ⟨w.heap.size + 1, k * 4 + 2, none⟩ = some (.bool sy) := by rw [cell_of_row wr _ _ _ _ _ hB1]; exact words_at hx 2 (by omega)
      have hc3 : wr.cell? ⟨w.heap.size + 1, k * 4 + 3, none⟩ = some (str tl) := by rw [cell_of_row wr _ _ _ _ _ hB1]; exact words_at hx 3 (by omega)
      obtain ⟨a0, a1, a2, a3, a4, a5⟩ := opCells_at HO.out.data
      have hd0 : wr.cell? ⟨w.heap.size, 0, none⟩ = some (.int .i64 o.kind) := by rw [cell_of_row wr _ _ _ _ _ hB0]; simpa using a0
      have hd3 : wr.cell? ⟨w.heap.size, 35, none⟩ = some (.bool o.sync) := by rw [cell_of_row wr _ _ _ _ _ hB0]; simpa using a3
      have hs1 : w.heap.size < wr.heap.size := by omega
      have hs2 : w.heap.size + 1 < wr.heap.size := by omega
      clear hx a0 a1 a2 a3 a4 a5 hB1 hB0
      unfold str at hc0 hc3
      by_cases hm : kd = o.kind ∧ sy = o.sync
      · obtain ⟨rfl, rfl⟩ := hm
        have e1 : (o.kind != o.kind) = false := by simp
        have e2 : (o.sync != o.sync) = false := by simp
        obtain ⟨wo, rfl⟩ : ∃ wo : World, wo = wr := ⟨_, rfl⟩
        have HL := Lib.hid L
        have HB2 := Lib.hid hb
        clear hb L
        go_wp2
        clear hd0 hd3 hc0 hc1 hc2 hc3
        go_loopw [5, 31] (fun v i wr => ∃ j : Nat, j ≤ tl.length ∧ i = .int .i64 j ∧ wr.ownsRow (wo.heap.size + 1) 9 1 v (j + 1) ((n :: (tl.take j).map (Tx.tellF o)).map str) ∧
            Below (wo.heap.size + 1) (wo.alloc (.cells #[.string ⟨n.toArray⟩, .int .i64 o.kind, .bool o.sync, .string ⟨tl.toArray⟩] 89)) wr) (fun _ i _ => tl.length - (intOf i).toNat)
        case atStart =>
          refine ⟨0, Nat.zero_le _, rfl, ?_, ((Below.refl _ _).alloc (by simp) _)⟩
          exact ⟨rfl, Or.inr ⟨wo.heap.size + 1, 1, #[.string ⟨n.toArray⟩], rfl, Nat.le_refl _, by rw [M.heap_alloc_if, if_pos (by simp)], Nat.le_refl _, by decide, rfl, rfl⟩⟩
        case round =>
          obtain ⟨j, hj, rfl, hown, hbx⟩ := hrel
          have hsx : wo.heap.size + 1 ≤ wr.heap.size := by simpa using hbx.size
          have hbw : Below w.heap.size w wr := (((((Below.refl _ _).alloc (Nat.le_refl _) _).alloc (by simp) _).trans (HB2.out.mono (by omega))).trans (((Below.refl _ _).alloc (by omega) _))).trans (hbx.mono (by omega))
          have hB : wr.heap[w.heap.size]? = some (.cells (opCells o).toArray 35 (0, 0)) := by
            rw [hbx.block _ (by omega), M.heap_alloc_if, if_neg (by omega), HB2.out.block _ (by omega), M.heap_alloc_if, if_neg (by simp), M.heap_alloc_if, if_pos rfl]
          by_cases hjt : j < tl.length
          · obtain ⟨c, hc⟩ : ∃ c, tl[j]? = some c := ⟨_, List.getElem?_eq_getElem hjt⟩
            have hix := fun w' => M.run_index_str (P := Tryd.prog) 9 Tryd.underlying9 ⟨tl.toArray⟩ .i64 (j : Int) c (by omega) (by simpa using hc) w'
            have hq3 : wr.cell? ⟨wo.heap.size, 3, none⟩ = some (.string ⟨tl.toArray⟩) := by
              rw [hbx.cell (p := ⟨wo.heap.size, 3, none⟩) (by simp), World.cell?_alloc_new]; rfl
            obtain ⟨a0, a1, a2, a3, a4, a5⟩ := opCells_at HO.out.data
            have hd1 : wr.cell? ⟨w.heap.size, 1, none⟩ = some (.int .i64 o.id) := by rw [cell_of_row wr _ _ _ _ _ hB]; simpa using a1
            have hd2 : wr.cell? ⟨w.heap.size, 2, none⟩ = some (.int .i64 o.block) := by rw [cell_of_row wr _ _ _ _ _ hB]; simpa using a2
            have hd4 : wr.cell? ⟨w.heap.size, 36, none⟩ = some (.int .i64 o.policy) := by rw [cell_of_row wr _ _ _ _ _ hB]; simpa using a4
            have HR : Hid (wr.rangeAt w.heap.size 3 (o.data.map bv)) := Lib.hid fun q v hv => by
              rw [cell_of_row wr _ _ _ _ _ hB]; simpa using a5 q v hv
            have HC := Lib.hid hc
            have LX := HL.out.below hbw
            clear hc a0 a1 a2 a3 a4 a5 hB
            have hl3 := words_len _ _ HX.out
            have hl3' : tl.length ≤ 3 := hl3
            clear hl3
            by_cases h1 : c.toNat = 105
            · have h1' : ((c.toNat : Int) == 105) = true := by simp; omega
              have HT : Hid (Tx.tellF o c = Lib.itoa o.id) := Lib.hid (by unfold Tx.tellF; rw [if_pos (UInt8.toNat_inj.1 h1)])
              clear h1
              go_wp2_with fail
              go_at_call 37
              refine (itoa_any o.id _ HO.out.id LX).mono ?_
              rintro e wA ⟨rfl, hbA⟩
              have hownA := M.own_below hown hbA
              have hszA := hbA.size
              clear hown
              go_wp2_with (at_builtin; refine wpList_append_own _ rfl _ _ 69 rfl (wo.heap.size + 1) 9 i0 _ 1 16 Tryd.underlying69 hi0 hz0 hz1 hz2 rfl (by decide) u5 (j + 1) _ rfl (hownA.alloc _) ⟨wA.heap.size, 0, none⟩ 1 1 [.string ⟨(Lib.itoa o.id).toArray⟩] rfl rfl (cell_one_new _ _ _) (by simp [Value.oneCell']) (by unfold maxLen; omega) (by omega) (by simp; omega) ?_; intro v1 w1 hown1 hg1 _)
              have HW := Lib.hid hown1
              clear hown1
              go_wp2
              go_roundw
              case rel => exact ⟨j + 1, by omega, by go_num, M.own_eq HW.out (by omega) (rel_next HC.out HT.out), (hbx.trans (((hbA.mono hsx).alloc (by omega) _).grown hg1 (by simp; omega) (fun q hq => (hownA.lt q hq).1)))⟩
              case measure => simp [intOf]; omega
            · have n1 : c ≠ 105 := fun e => h1 (by rw [e]; rfl)
              have h1' : ((c.toNat : Int) == 105) = false := by simp; omega
              clear h1
              by_cases h2 : c.toNat = 98
              · have h2' : ((c.toNat : Int) == 98) = true := by simp; omega
                have HT : Hid (Tx.tellF o c = Lib.itoa o.block) := Lib.hid (by unfold Tx.tellF; rw [if_neg n1, if_pos (UInt8.toNat_inj.1 h2)])
                clear h2 n1
                go_wp2_with fail
                go_at_call 37
                refine (itoa_any o.block _ HO.out.block LX).mono ?_
                rintro e wA ⟨rfl, hbA⟩
                have hownA := M.own_below hown hbA
                have hszA := hbA.size
                clear hown
                go_wp2_with (at_builtin; refine wpList_append_own _ rfl _ _ 69 rfl (wo.heap.size + 1) 9 i0 _ 1 16 Tryd.underlying69 hi0 hz0 hz1 hz2 rfl (by decide) u5 (j + 1) _ rfl (hownA.alloc _) ⟨wA.heap.size, 0, none⟩ 1 1 [.string ⟨(Lib.itoa o.block).toArray⟩] rfl rfl (cell_one_new _ _ _) (by simp [Value.oneCell']) (by unfold maxLen; omega) (by omega) (by simp; omega) ?_; intro v1 w1 hown1 hg1 _)
                have HW := Lib.hid hown1
                clear hown1
                go_wp2
                go_roundw
                case rel => exact ⟨j + 1, by omega, by go_num, M.own_eq HW.out (by omega) (rel_next HC.out HT.out), (hbx.trans (((hbA.mono hsx).alloc (by omega) _).grown hg1 (by simp; omega) (fun q hq => (hownA.lt q hq).1)))⟩
                case measure => simp [intOf]; omega
              · have n2 : c ≠ 98 := fun e => h2 (by rw [e]; rfl)
                have h2' : ((c.toNat : Int) == 98) = false := by simp; omega
                clear h2
                by_cases h3 : c.toNat = 112
                · have h3' : ((c.toNat : Int) == 112) = true := by simp; omega
                  have HT : Hid (Tx.tellF o c = Lib.itoa o.policy) := Lib.hid (by unfold Tx.tellF; rw [if_neg n1, if_neg n2, if_pos (UInt8.toNat_inj.1 h3)])
                  clear h3 n1 n2
                  go_wp2_with fail
                  go_at_call 37
                  refine (itoa_any o.policy _ HO.out.policy LX).mono ?_
                  rintro e wA ⟨rfl, hbA⟩
                  have hownA := M.own_below hown hbA
                  have hszA := hbA.size
                  clear hown
                  go_wp2_with (at_builtin; refine wpList_append_own _ rfl _ _ 69 rfl (wo.heap.size + 1) 9 i0 _ 1 16 Tryd.underlying69 hi0 hz0 hz1 hz2 rfl (by decide) u5 (j + 1) _ rfl (hownA.alloc _) ⟨wA.heap.size, 0, none⟩ 1 1 [.string ⟨(Lib.itoa o.policy).toArray⟩] rfl rfl (cell_one_new _ _ _) (by simp [Value.oneCell']) (by unfold maxLen; omega) (by omega) (by simp; omega) ?_; intro v1 w1 hown1 hg1 _)
                  have HW := Lib.hid hown1
                  clear hown1
                  go_wp2
                  go_roundw
                  case rel => exact ⟨j + 1, by omega, by go_num, M.own_eq HW.out (by omega) (rel_next HC.out HT.out), (hbx.trans (((hbA.mono hsx).alloc (by omega) _).grown hg1 (by simp; omega) (fun q hq => (hownA.lt q hq).1)))⟩
                  case measure => simp [intOf]; omega
                · have n3 : c ≠ 112 := fun e => h3 (by rw [e]; rfl)
                  have h3' : ((c.toNat : Int) == 112) = false := by simp; omega
                  have HT : Hid (Tx.tellF o c = Tx.hexF o.data) := Lib.hid (by unfold Tx.tellF; rw [if_neg n1, if_neg n2, if_neg n3])
                  clear h3 n1 n2 n3
                  go_wp2_with (refine wpList_load_mid rfl 33 _ rfl w.heap.size 3 rfl (o.data.map bv) _ HR.out Tryd.underlying33 rfl (info33.trans (by simp [HO.out.data])) ?_)
                  go_at_call 51
                  refine (hexT_any o.data _ HO.out.data).mono ?_
                  rintro e wA ⟨rfl, hbA⟩
                  have hownA := M.own_below hown hbA
                  have hszA := hbA.size
                  clear hown
                  go_wp2_with (at_builtin; refine wpList_append_own _ rfl _ _ 69 rfl (wo.heap.size + 1) 9 i0 _ 1 16 Tryd.underlying69 hi0 hz0 hz1 hz2 rfl (by decide) u5 (j + 1) _ rfl (hownA.alloc _) ⟨wA.heap.size, 0, none⟩ 1 1 [.string ⟨(Tx.hexF o.data).toArray⟩] rfl rfl (cell_one_new _ _ _) (by simp [Value.oneCell']) (by unfold maxLen; omega) (by omega) (by simp; omega) ?_; intro v1 w1 hown1 hg1 _)
                  have HW := Lib.hid hown1
                  clear hown1
                  go_wp2
                  go_roundw
                  case rel => exact ⟨j + 1, by omega, by go_num, M.own_eq HW.out (by omega) (rel_next HC.out HT.out), (hbx.trans (((hbA.mono hsx).alloc (by omega) _).grown hg1 (by simp; omega) (fun q hq => (hownA.lt q hq).1)))⟩
                  case measure => simp [intOf]; omega
          · have hj2 : j = tl.length := by omega
            have HJ := Lib.hid hj2
            clear hj2
            go_wp2
            go_ret
            refine ⟨_, rfl, M.own_eq (M.own_base hown (by omega)) ?_ ?_, hbw⟩
            · have : Tx.fieldsF o = n :: tl.map (Tx.tellF o) := by
                have hm := List.mem_of_getElem? HX.out
                obtain ⟨_, _, _, _, _, _, hf, _⟩ := Tx.words_spec _ hm
                unfold Tx.fieldsF
                rw [hf]
              rw [this]; simp; exact HJ.out
            · have : Tx.fieldsF o = n :: tl.map (Tx.tellF o) := by
                have hm := List.mem_of_getElem? HX.out
                obtain ⟨_, _, _, _, _, _, hf, _⟩ := Tx.words_spec _ hm
                unfold Tx.fieldsF
                rw [hf]
              rw [this, List.take_of_length_le (by have := HJ.out; omega)]
      · have HM : (kd != o.kind || sy != o.sync) = true := by
          simp only [Bool.or_eq_true, bne_iff_ne, ne_eq]
          by_cases h : kd = o.kind
          · exact Or.inr fun e => hm ⟨h, e⟩
          · exact Or.inl h
        have HM2 := Lib.hid HM
        clear HM hm
        have HF : Hid (∀ (j : Nat) (x : Tx.Bytes × Int × Bool × Tx.Bytes), j < k + 1 → Tx.words[j]? = some x → (x.2.1 == o.kind && x.2.2.1 == o.sync) = false) := Lib.hid fun j x hj hx => by
          by_cases e : j = k
          · subst e
            have := HX.out
            rw [this] at hx
            injection hx with hx
            subst hx
            have := HM2.out
            simp only [bne, Bool.or_eq_true, Bool.not_eq_true'] at this
            simp only [Bool.and_eq_false_iff]
            exact this
          · exact HA.out j x (by omega) hx
        cases e1 : (kd != o.kind) with
        | true =>
          go_wp2
          go_roundw
          case rel => exact ⟨k + 1, by omega, by go_num, HF.out, hb.alloc hsz _⟩
          case measure => simp [intOf]; omega
        | false =>
          have e2 : (sy != o.sync) = true := by have := HM2.out; rw [e1] at this; simpa using this
          have e4 : (sy == o.sync) = false := by simpa [bne] using e2
          have e3 : kd = o.kind := by simpa using e1
          have E3 := Lib.hid e3
          clear e3
          go_wp2
          go_roundw
          case rel => exact ⟨k + 1, by omega, by go_num, HF.out, hb.alloc hsz _⟩
          case measure => simp [intOf]; omega
    · have hk13 : k = 13 := by omega
      have HK := Lib.hid hk13
      clear hk13
      go_wp2
      go_ret
      have hf : Tx.fieldsF o = [] := by
        unfold Tx.fieldsF
        have : Tx.words.find? (fun w => w.2.1 == o.kind && w.2.2.1 == o.sync) = none := by
          rw [List.find?_eq_none]
          intro x hx
          obtain ⟨j, hj⟩ := List.getElem?_of_mem hx
          have hlt2 : j < 13 := (List.getElem?_eq_some_iff.1 hj).1
          have := HA.out j x (by have := HK.out; omega) hj
          simp [this]
        rw [this]
      rw [hf]
      exact ⟨_, rfl, World.ownsRow_nil _ _ _ _, ((((Below.refl _ _).alloc (Nat.le_refl _) _).alloc (by simp) _)).trans (hb.mono (by omega))⟩

end Go.Proofs.YtjjlmhlfobmpgaaDoor
