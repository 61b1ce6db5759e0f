/-
What the walks hold of the program's own variables, and the library's functions as the walks meet them.
-/
import Derived.Test.YtjjlmhlfobmpgaaDoorA
import Derived.Test.YtjjlmhlfobmpgaaDoorShelf
import Derived.WalkSmall
namespace Go.Proofs.YtjjlmhlfobmpgaaDoor
open Go.RowKit

/-- What is held of the package-level variables that are read. -/
structure Ld (w : World) : Prop where
  tab : Lib.TabIs Tryd.prog w "internal/strconv.uint64pow10" .u64 Lib.pow10Tab
  syn : ∃ tp p, w.var? Tryd.prog "strconv.ErrSyntax" = some #[.iface tp p]
  rng : ∃ tp p, w.var? Tryd.prog "strconv.ErrRange" = some #[.iface tp p]
  max : ∃ m, w.cell? ⟨0, 0, none⟩ = some (.int .i64 m)

theorem var_keep {P : Program} {n : String} {w w' : World} {cs : Array Value} (hb : Below w.heap.size w w') (h : w.var? P n = some cs) : w'.var? P n = some cs := by
  unfold World.var? at h ⊢
  cases hg : P.globalNamed n with
  | none => simp [hg] at h
  | some g =>
    simp only [hg, Option.bind_some] at h ⊢
    have hlt : g < w.heap.size := by
      rcases Nat.lt_or_ge g w.heap.size with h' | h'
      · exact h'
      · rw [Array.getElem?_eq_none h'] at h; simp at h
    rw [hb.block g hlt]
    exact h

theorem Ld.below {w w' : World} (h : Ld w) (hb : Below w.heap.size w w') : Ld w' := by
  obtain ⟨t, ⟨a, b, s⟩, ⟨c, d, r⟩, ⟨m, hm⟩⟩ := h
  refine ⟨var_keep hb t, ⟨a, b, var_keep hb s⟩, ⟨c, d, var_keep hb r⟩, ⟨m, ?_⟩⟩
  rw [hb.cell (p := ⟨0, 0, none⟩) (World.block_lt_of_cell? _ _ hm)]
  exact hm

theorem Ld.drewN {w : World} (h : Ld w) (n : Nat) : Ld (w.drewN n) := ⟨h.tab, h.syn, h.rng, h.max⟩
theorem Ld.drew {w : World} (h : Ld w) : Ld w.drew := ⟨h.tab, h.syn, h.rng, h.max⟩
theorem Ld.alloc {w : World} (h : Ld w) (o : Obj) : Ld (w.alloc o) := h.below ((Below.refl _ _).alloc (Nat.le_refl _) o)

theorem below_drewN (w : World) (n : Nat) (B : Nat) : Below B w (w.drewN n) := ⟨rfl, rfl, rfl, Nat.le_refl _, fun _ _ => rfl⟩

theorem below_grow (w : World) (k : Nat) (os : Array Obj) : Below w.heap.size w (Sort.grow (w.drewN k) os) :=
  ⟨rfl, rfl, rfl, by simp [Sort.grow, World.drewN], fun i hi => by simp [Sort.grow, World.drewN, Array.getElem?_append, hi]⟩

def I64 (n : Int) : Prop := -9223372036854775808 ≤ n ∧ n ≤ 9223372036854775807

theorem itoa_any (n : Int) (w : World) (hn : I64 n) (L : Ld w) :
    Calls Tryd.prog 37 #[.int .i64 n] w fun e w' => e = .returned (.string ⟨(Lib.itoa n).toArray⟩) ∧ Below w.heap.size w w' :=
  (Tryd.strconv_Itoa n hn.1 hn.2 w L.tab).mono fun e w' ⟨he, k, os, hw⟩ => ⟨he, by rw [hw]; exact below_grow w k os⟩

set_option maxRecDepth 100000 in
set_option maxHeartbeats 1000000 in
theorem formatUint_in (u : Nat) (w : World) (hu64 : u < 18446744073709551616) (L : Ld w) :
    Calls Tryd.prog 49 #[.int .u64 u, .int .i64 10] w fun e w' => e = .returned (.string ⟨(Lib.decDigits u).toArray⟩) ∧ Below w.heap.size w w' := by
  have HU := Lib.hid hu64
  have L1 := Lib.hid (Lib.tabIs_alloc L.tab)
  by_cases hs : u < 100
  · have h1 : (u : Int) < 100 := by omega
    clear hu64
    go_enter Tryd.func49, Tryd.ntmps49
    go_wp2_with (go_at_call 65; refine (Tryd.internal_strconv_small u hs _).mono ?_; rintro e w' ⟨rfl, rfl⟩)
    go_ret
    exact ⟨rfl, Below.refl _ _⟩
  · have h1 : ¬ (u : Int) < 100 := by omega
    have hu1 : 1 ≤ u := by omega
    have hnd20 : Lib.nDigits u ≤ 20 := Lib.nDigits_le20 u hu64
    have hal : Tryd.prog.arrayLen 101 = 24 := by kernel_rfl
    have hsl1 : ∀ W, (Instr.sliceAt 101 (.pointer (some ⟨w.heap.size, 0, none⟩)) none (some (.int .i64 (Lib.nDigits u : Int))) none).run Tryd.prog W = .ok (.slice (some ⟨w.heap.size, 0, none⟩) (Lib.nDigits u) 24) W := fun W => by
      rw [run_sliceAt_array_h W 101 ⟨w.heap.size, 0, none⟩ (by simp [Program.arrayLen, Program.elem, Tryd.underlying101]) .i64 (Lib.nDigits u : Int) (by omega) (by rw [hal]; omega)]
      rw [hal]
      go_simp
    have hH0 : Sort.Holds (fun (b : UInt8) => Value.int .u8 (b.toNat : Int)) (w.alloc (.cells Lib.zeros24 101)) w.heap.size 0 (Array.replicate (Lib.nDigits u) (0 : UInt8)) := fun j hj => by
      have hj' : j < Lib.nDigits u := by simpa using hj
      refine ⟨?_, World.frozen?_alloc_new _ _ _ _⟩
      rw [World.cell?_alloc_new, Lib.zeros24_at _ (by omega), getElem!_pos _ j hj]
      simp
    have hfmt := Tryd.internal_strconv_formatBase10 w.heap.size 0 24 u (Array.replicate (Lib.nDigits u) 0) (w.alloc (.cells Lib.zeros24 101)) hH0 (by rw [Array.size_replicate]; exact Lib.lt_pow_nDigits u) hu64 (by rw [Array.size_replicate]; omega)
    rw [Array.size_replicate] at hfmt
    have HH0 := Lib.hid hH0
    have HF := Lib.hid hfmt
    clear hH0 hal hfmt hu64
    go_enter Tryd.func49, Tryd.ntmps49
    go_wp2_with (first
      | (go_at_call 66; refine (Tryd.internal_strconv_numDigits u hu1 HU.out _ (L1.out _)).mono ?_; rintro e w' ⟨rfl, rfl⟩))
    go_at_call 67
    refine HF.out.mono ?_
    rintro e w' ⟨rfl, k, v', dk, rfl, hF⟩
    have hcv : (convert 61 9 (.slice (some ⟨w.heap.size, 0, none⟩) (Lib.nDigits u) 24)).run Tryd.prog ((Sort.putRow (fun (b : UInt8) => Value.int .u8 (b.toNat : Int)) (w.alloc (.cells Lib.zeros24 101)) w.heap.size 0 dk).drewN k) = .ok (.string ⟨(Lib.decDigits u).toArray⟩) ((Sort.putRow (fun (b : UInt8) => Value.int .u8 (b.toNat : Int)) (w.alloc (.cells Lib.zeros24 101)) w.heap.size 0 dk).drewN k) :=
      M.run_bytes_str 61 9 5 Tryd.underlying61 Tryd.underlying5 Tryd.underlying9 _ (Lib.decDigits u) _ _ (Lib.decDigits_length u).symm _ (fun j x hj => by
        have hj' : j < (Lib.decDigits u).length := (List.getElem?_eq_some_iff.1 hj).1
        have hx : x = (Lib.decDigits u)[j] := ((List.getElem?_eq_some_iff.1 hj).2).symm
        rw [hx, Lib.row_is_numeral hF j hj', Lib.add_plain, World.cell?_drewN]
        exact Sort.cell?_putRow (fun (b : UInt8) => Value.int .u8 (b.toNat : Int)) _ w.heap.size 0 _ dk HH0.out (by rw [hF.size, Array.size_replicate]) j (by rw [hF.size]; rw [Lib.decDigits_length] at hj'; exact hj'))
    go_wp2
    go_ret
    obtain ⟨os, _, eo⟩ := Sort.putRow_grow_new (fun (b : UInt8) => Value.int .u8 (b.toNat : Int)) w #[.cells Lib.zeros24 101] w.heap.size 0 dk (Nat.le_refl _)
    rw [← Sort.alloc_eq_grow] at eo
    refine ⟨rfl, ?_⟩
    rw [eo]
    exact below_grow w k os

set_option maxHeartbeats 400000 in
theorem formatUint_any (u : Nat) (w : World) (hu : u < 18446744073709551616) (L : Ld w) :
    Calls Tryd.prog 36 #[.int .u64 u, .int .i64 10] w fun e w' => e = .returned (.string ⟨(Lib.decDigits u).toArray⟩) ∧ Below w.heap.size w w' := by
  have HU := Lib.hid hu
  clear hu
  go_enter Tryd.func36, Tryd.ntmps36
  go_wp2_with (go_at_call 49; refine (formatUint_in u _ HU.out L).mono ?_; rintro e w' ⟨rfl, hb⟩)
  go_ret
  exact ⟨rfl, hb⟩

/-! ### numbers -/

theorem atoi_yes (s : ByteArray) (v : Int) (w : World) (hs : s.size ≤ 140737488355328) (h : Lib.atoiAll s.data.toList = .ok v) :
    Calls Tryd.prog 45 #[.string s] w fun e w' => e = .returned (.tuple #[.int .i64 v, .nilIface]) ∧ Below w.heap.size w w' :=
  (Tryd.strconv_Atoi_ok s (by omega) v h w).mono fun e w' ⟨he, hw⟩ => ⟨he, by
    rcases hw with rfl | ⟨t, rfl⟩
    · exact Below.refl _ _
    · exact ⟨rfl, rfl, rfl, by rw [Lib.bytesWorld_size]; omega, fun i hi => Lib.bytesWorld_at_old w 5 t i hi⟩⟩

theorem atoi_no (s : ByteArray) (w : World) (hs : s.size ≤ 140737488355328) (h : ∀ v, Lib.atoiAll s.data.toList ≠ .ok v) (L : Ld w) :
    Calls Tryd.prog 45 #[.string s] w fun e w' => ∃ v p, e = .returned (.tuple #[.int .i64 v, .iface 115 p]) ∧ Below w.heap.size w w' := by
  obtain ⟨t1, p1, h1⟩ := L.syn
  obtain ⟨t2, p2, h2⟩ := L.rng
  by_cases hr : Lib.atoiAll s.data.toList = .range
  · exact (Tryd.strconv_Atoi_range_var s (by omega) hr t2 p2 w h2).mono fun e w' ⟨N, he, _, _, hb⟩ => ⟨_, _, he, hb⟩
  · exact (Tryd.strconv_Atoi_syntax_var s (by omega) h hr t1 p1 w h1).mono fun e w' ⟨N, he, _, _, hb⟩ => ⟨_, _, he, hb⟩

theorem parseUint_yes (s : ByteArray) (u : Nat) (w : World) (hs : s.size ≤ 140737488355328) (h : Lib.parseUintB 64 s.data.toList = .ok u) :
    Calls Tryd.prog 44 #[.string s, .int .i64 10, .int .i64 64] w fun e w' => e = .returned (.tuple #[.int .u64 u, .nilIface]) ∧ Below w.heap.size w w' :=
  (Tryd.strconv_ParseUint_10_at64_ok s (by omega) u h w).mono fun e w' ⟨he, hw⟩ => ⟨he, by
    rcases hw with rfl | rfl
    · exact Below.refl _ _
    · exact ⟨rfl, rfl, rfl, by rw [Lib.bytesWorld_size]; omega, fun i hi => Lib.bytesWorld_at_old w 5 s i hi⟩⟩

theorem parseUint_no (s : ByteArray) (w : World) (hs : s.size ≤ 140737488355328) (h : ∀ v, Lib.parseUintB 64 s.data.toList ≠ .ok v) (L : Ld w) :
    Calls Tryd.prog 44 #[.string s, .int .i64 10, .int .i64 64] w fun e w' => ∃ v p, e = .returned (.tuple #[.int .u64 v, .iface 115 p]) ∧ Below w.heap.size w w' := by
  obtain ⟨t1, p1, h1⟩ := L.syn
  obtain ⟨t2, p2, h2⟩ := L.rng
  by_cases hr : Lib.parseUintB 64 s.data.toList = .range
  · exact (Tryd.strconv_ParseUint_10_at64_range_var s (by omega) hr t2 p2 w h2).mono fun e w' ⟨N, he, _, _, hb⟩ => ⟨_, _, he, hb⟩
  · exact (Tryd.strconv_ParseUint_10_at64_syntax_var s (by omega) h hr t1 p1 w h1).mono fun e w' ⟨N, he, _, _, hb⟩ => ⟨_, _, he, hb⟩

end Go.Proofs.YtjjlmhlfobmpgaaDoor
