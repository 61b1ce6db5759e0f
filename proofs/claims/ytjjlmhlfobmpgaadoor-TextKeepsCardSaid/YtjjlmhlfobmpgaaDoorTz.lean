/-
What is printed is read as it was, and what is read is printed as it was: lines and steps. Plain lists, no program here.
-/
import Derived.Test.YtjjlmhlfobmpgaaDoorTy
namespace Go.Proofs.YtjjlmhlfobmpgaaDoor.Tx
open Go.Lib

theorem opEq_iff (a b : OpV) : opEq a b = true ↔ a = b := by
  unfold opEq
  cases a; cases b
  simp [and_assoc]

theorem sameF_iff (a b : StepV) : sameF a b = true ↔ a = b := by
  unfold sameF
  have h := opEq_iff a.op b.op
  cases a; cases b
  simp only [Bool.and_eq_true, beq_iff_eq, StepV.mk.injEq] at h ⊢
  rw [h]
  constructor
  · rintro ⟨⟨⟨⟨⟨h1, h2⟩, h3⟩, h4⟩, h5⟩, h6⟩; exact ⟨h1, h2, h3, h6, h4, h5⟩
  · rintro ⟨h1, h2, h3, h6, h4, h5⟩; exact ⟨⟨⟨⟨⟨h1, h2⟩, h3⟩, h4⟩, h5⟩, h6⟩

/-- What is known of each of the words. -/
theorem words_spec : ∀ w ∈ words, nameF w.2.1 w.2.2.1 = (w.1, w.2.2.2) ∧ w.1 ≠ [] ∧ (32 : UInt8) ∉ w.1 ∧ (10 : UInt8) ∉ w.1 ∧ w.1 ≠ crashW ∧ w.1 ≠ armW ∧
    words.find? (fun v => v.2.1 == w.2.1 && v.2.2.1 == w.2.2.1) = some w ∧
    (w.2.2.2 = [] ∨ w.2.2.2 = [105] ∨ w.2.2.2 = [112] ∨ w.2.2.2 = [105, 98] ∨ w.2.2.2 = [105, 98, 100]) := by
  decide +kernel

theorem words_name : ∀ w ∈ words, ∀ v ∈ words, v.1 = w.1 → v = w := by
  decide +kernel

theorem find_name {w : Bytes × Int × Bool × Bytes} (hw : w ∈ words) {l : List Bytes} (h0 : l.headD [] = w.1) (hl : l.length = 1 + w.2.2.2.length) :
    words.find? (fun v => v.1 == l.headD [] && l.length == 1 + v.2.2.2.length) = some w := by
  cases h : words.find? (fun v => v.1 == l.headD [] && l.length == 1 + v.2.2.2.length) with
  | none =>
    have := List.find?_eq_none.1 h w hw
    rw [h0, hl] at this
    simp at this
  | some v =>
    have hv := List.mem_of_find?_eq_some h
    have hp := List.find?_some h
    simp only [Bool.and_eq_true, beq_iff_eq] at hp
    rw [words_name w hw v hv (hp.1.trans h0)]

theorem name_words {k : Int} {s : Bool} {n t : Bytes} (h : nameF k s = (n, t)) (hn : n ≠ []) : (n, k, s, t) ∈ words := by
  unfold nameF at h
  cases s with
  | true =>
    rw [if_pos rfl] at h
    split at h
    · rename_i hk; subst hk; injection h with h1 h2; subst h1; subst h2; decide
    · injection h with h1 h2; exact absurd h1.symm hn
  | false =>
    rw [if_neg (by simp)] at h
    by_cases h1 : k = 1
    · subst h1; simp at h; obtain ⟨rfl, rfl⟩ := h; decide
    by_cases h2 : k = 2
    · subst h2; simp at h; obtain ⟨rfl, rfl⟩ := h; decide
    by_cases h3 : k = 3
    · subst h3; simp at h; obtain ⟨rfl, rfl⟩ := h; decide
    by_cases h4 : k = 4
    · subst h4; simp at h; obtain ⟨rfl, rfl⟩ := h; decide
    by_cases h5 : k = 5
    · subst h5; simp at h; obtain ⟨rfl, rfl⟩ := h; decide
    by_cases h6 : k = 6
    · subst h6; simp at h; obtain ⟨rfl, rfl⟩ := h; decide
    by_cases h7 : k = 7
    · subst h7; simp at h; obtain ⟨rfl, rfl⟩ := h; decide
    by_cases h8 : k = 8
    · subst h8; simp at h; obtain ⟨rfl, rfl⟩ := h; decide
    by_cases h9 : k = 9
    · subst h9; simp at h; obtain ⟨rfl, rfl⟩ := h; decide
    by_cases h10 : k = 10
    · subst h10; simp at h; obtain ⟨rfl, rfl⟩ := h; decide
    by_cases h11 : k = 11
    · subst h11; simp at h; obtain ⟨rfl, rfl⟩ := h; decide
    by_cases h12 : k = 12
    · subst h12; simp at h; obtain ⟨rfl, rfl⟩ := h; decide
    simp only [h1, h2, h3, h4, h5, h6, h7, h8, h9, h10, h11, h12, if_false] at h
    injection h with ha hb
    exact absurd ha.symm hn

/-! ### the line of an operation -/

/-- The two readings of a told operation agree: from the reference's arguments to the read ones. -/
theorem args_of_ref {x o : OpV} {t s s' : Bytes} {o' : OpV} (hx : x.data.length = 32)
    (ht : t = [] ∨ t = [105] ∨ t = [112] ∨ t = [105, 98] ∨ t = [105, 98, 100]) (h : refArgs x t s o = some (s', o')) :
    argsF o t (t.map (tellF x)) = some o' ∧ (s' = s ++ ((t.map (tellF x)).map fun w => 32 :: w).flatten) ∧ ∀ w ∈ t.map (tellF x), (32 : UInt8) ∉ w ∧ (10 : UInt8) ∉ w := by
  have hid : ∀ n : Int, fits n = true → decDigits n.toNat = itoa n := fun n hn => by
    simp only [fits, Bool.and_eq_true, decide_eq_true_eq] at hn
    rw [itoa_nat hn.1]
  rcases ht with rfl | rfl | rfl | rfl | rfl
  · simp only [refArgs, Option.some.injEq, Prod.mk.injEq] at h
    obtain ⟨rfl, rfl⟩ := h
    simp [argsF]
  · simp only [refArgs, refArg] at h
    by_cases h1 : fits x.id = true
    · simp [h1] at h
      obtain ⟨rfl, rfl⟩ := h
      simp [argsF, argF, tellF, num_itoa h1, hid _ h1, itoa_no (c := 32) h1 (by decide), itoa_no (c := 10) h1 (by decide)]
    · simp [h1] at h
  · simp only [refArgs, refArg] at h
    by_cases h1 : fits x.policy = true
    · simp [h1] at h
      obtain ⟨rfl, rfl⟩ := h
      simp [argsF, argF, tellF, num_itoa h1, hid _ h1, itoa_no (c := 32) h1 (by decide), itoa_no (c := 10) h1 (by decide)]
    · simp [h1] at h
  · simp only [refArgs, refArg] at h
    by_cases h1 : fits x.id = true
    · by_cases h2 : fits x.block = true
      · simp [h1, h2] at h
        obtain ⟨rfl, rfl⟩ := h
        simp [argsF, argF, tellF, num_itoa h1, num_itoa h2, hid _ h1, hid _ h2, itoa_no (c := 32) h1 (by decide), itoa_no (c := 10) h1 (by decide), itoa_no (c := 32) h2 (by decide), itoa_no (c := 10) h2 (by decide)]
      · simp [h1, h2] at h
    · simp [h1] at h
  · simp only [refArgs, refArg] at h
    by_cases h1 : fits x.id = true
    · by_cases h2 : fits x.block = true
      · simp [h1, h2] at h
        obtain ⟨rfl, rfl⟩ := h
        simp [argsF, argF, tellF, num_itoa h1, num_itoa h2, data_hex hx, hid _ h1, hid _ h2, itoa_no (c := 32) h1 (by decide), itoa_no (c := 10) h1 (by decide), itoa_no (c := 32) h2 (by decide), itoa_no (c := 10) h2 (by decide), hex_no (c := 32) (d := x.data) (by decide), hex_no (c := 10) (d := x.data) (by decide)]
      · simp [h1, h2] at h
    · simp [h1] at h

theorem ref_of_args {k : Int} {sy : Bool} {t : Bytes} {r : List Bytes} {o' : OpV} (s : Bytes)
    (ht : t = [] ∨ t = [105] ∨ t = [112] ∨ t = [105, 98] ∨ t = [105, 98, 100]) (hl : r.length = t.length) (h : argsF { op0 with kind := k, sync := sy } t r = some o') :
    o'.kind = k ∧ o'.sync = sy ∧ o'.data.length = 32 ∧ r = t.map (tellF o') ∧ refArgs o' t s { op0 with kind := k, sync := sy } = some (s ++ (r.map fun w => 32 :: w).flatten, o') := by
  have hid : ∀ n : Int, fits n = true → decDigits n.toNat = itoa n := fun n hn => by
    simp only [fits, Bool.and_eq_true, decide_eq_true_eq] at hn
    rw [itoa_nat hn.1]
  have hz : zeros.length = 32 := by simp [zeros]
  rcases ht with rfl | rfl | rfl | rfl | rfl
  · cases r with
    | cons a b => simp at hl
    | nil =>
      simp only [argsF, Option.some.injEq] at h
      subst h
      simp [refArgs, op0, hz]
  · match r, hl with
    | [a], _ =>
      simp only [argsF, argF] at h
      cases h1 : numV a with
      | none => simp [h1] at h
      | some n =>
        obtain ⟨rfl, f1⟩ := num_some h1
        simp [h1] at h
        subst h
        simp [refArgs, refArg, op0, hz, tellF, f1, hid _ f1]
  · match r, hl with
    | [a], _ =>
      simp only [argsF, argF] at h
      cases h1 : numV a with
      | none => simp [h1] at h
      | some n =>
        obtain ⟨rfl, f1⟩ := num_some h1
        simp [h1] at h
        subst h
        simp [refArgs, refArg, op0, hz, tellF, f1, hid _ f1]
  · match r, hl with
    | [a, b], _ =>
      simp only [argsF, argF] at h
      cases h1 : numV a with
      | none => simp [h1] at h
      | some n =>
        cases h2 : numV b with
        | none => simp [h1, h2] at h
        | some m =>
          obtain ⟨rfl, f1⟩ := num_some h1
          obtain ⟨rfl, f2⟩ := num_some h2
          simp [h1, h2] at h
          subst h
          simp [refArgs, refArg, op0, hz, tellF, f1, f2, hid _ f1, hid _ f2]
  · match r, hl with
    | [a, b, c], _ =>
      simp only [argsF, argF] at h
      cases h1 : numV a with
      | none => simp [h1] at h
      | some n =>
        cases h2 : numV b with
        | none => simp [h1, h2] at h
        | some m =>
          cases h3 : dataF c with
          | none => simp [h1, h2, h3] at h
          | some d =>
            obtain ⟨rfl, f1⟩ := num_some h1
            obtain ⟨rfl, f2⟩ := num_some h2
            obtain ⟨rfl, f3⟩ := data_some h3
            simp [h1, h2, h3] at h
            subst h
            simp [refArgs, refArg, op0, f3, tellF, f1, f2, hid _ f1, hid _ f2]

theorem join_map (a : Bytes) (r : List Bytes) : join (a :: r) [32] = a ++ (r.map fun w => 32 :: w).flatten := by
  rw [join_cons]; rfl

theorem keep_ref : ∀ (k : List Int) (s t : Bytes), refKeep k s = some t ↔ ((∀ n ∈ k, fits n = true) ∧ t = s ++ ((k.map itoa).map fun w => 32 :: w).flatten)
  | [], s, t => by
    simp only [refKeep, Option.some.injEq, List.not_mem_nil, false_implies, implies_true, true_and, List.map_nil, List.flatten_nil, List.append_nil]
    exact ⟨fun h => h.symm, fun h => h.symm⟩
  | n :: r, s, t => by
    unfold refKeep
    by_cases h : fits n = true
    · rw [if_pos h, keep_ref r]
      have : decDigits n.toNat = itoa n := by
        simp only [fits, Bool.and_eq_true, decide_eq_true_eq] at h
        rw [itoa_nat h.1]
      simp [h, this]
    · rw [if_neg h]
      simp [h]

theorem nums_iff : ∀ (r : List Bytes) (k : List Int), numsF r = some k ↔ (r = k.map itoa ∧ ∀ n ∈ k, fits n = true)
  | [], k => by
    constructor
    · intro h; simp [numsF] at h; subst h; simp
    · rintro ⟨h, _⟩
      have : k = [] := by simpa using h.symm
      subst this; rfl
  | f :: r, k => by
    unfold numsF
    constructor
    · intro h
      split at h
      · rename_i n t h1 h2
        injection h with h
        subst h
        obtain ⟨rfl, h3⟩ := num_some h1
        obtain ⟨rfl, h4⟩ := (nums_iff r t).1 h2
        exact ⟨rfl, fun m hm => by rcases List.mem_cons.1 hm with rfl | hm; exact h3; exact h4 m hm⟩
      · cases h
    · rintro ⟨h1, h2⟩
      cases k with
      | nil => simp at h1
      | cons n t =>
        simp only [List.map_cons, List.cons.injEq] at h1
        obtain ⟨rfl, rfl⟩ := h1
        rw [num_itoa (h2 n (by simp)), (nums_iff (t.map itoa) t).2 ⟨rfl, fun m hm => h2 m (List.mem_cons_of_mem _ hm)⟩]

/-- A step as it may be: the numbers' sizes, and the data's length. -/
def StepOk (x : StepV) : Prop := x.soft < 18446744073709551616 ∧ x.op.data.length = 32

theorem zeros_len : op0.data.length = 32 := by simp [op0, zeros]

/-- What the reference prints of a step is its line; it is read as the step. -/
theorem line_read {x : StepV} (hx : StepOk x) {t : Bytes} (h : refLine x = some t) :
    lineF x = t ∧ ∃ b, t = b ++ [10] ∧ (10 : UInt8) ∉ b ∧ stepF b = some x := by
  unfold refLine at h
  by_cases hc : x.crash = true
  · rw [if_pos hc] at h
    split at h
    · cases h
    · rename_i hg
      simp only [Bool.not_eq_true, Bool.or_eq_false_iff, Bool.not_eq_false', bne_eq_false_iff_eq] at hg
      obtain ⟨⟨g1, g2⟩, g3⟩ := hg
      split at h
      · rename_i s hs
        injection h with h
        obtain ⟨hk, rfl⟩ := (keep_ref _ _ _).1 hs
        have e0 : x.op = op0 := (opEq_iff _ _).1 g1
        have et : decDigits x.tear.toNat = itoa x.tear := by
          have g3' := g3
          simp only [fits, Bool.and_eq_true, decide_eq_true_eq] at g3'
          rw [itoa_nat g3'.1]
        have el : lineL x = crashW :: decDigits x.soft :: itoa x.tear :: x.keep.map itoa := by unfold lineL; rw [if_pos hc]
        have eb : crashW ++ [32] ++ decDigits x.soft ++ [32] ++ decDigits x.tear.toNat ++ ((x.keep.map itoa).map fun w => 32 :: w).flatten = join (lineL x) [32] := by
          rw [el, join_map, et]; simp
        rw [eb] at h
        have hno : ∀ w ∈ lineL x, (32 : UInt8) ∉ w ∧ (10 : UInt8) ∉ w := by
          rw [el]
          intro w hw
          simp only [List.mem_cons, List.mem_map] at hw
          rcases hw with rfl | rfl | rfl | ⟨n, hn, rfl⟩
          · decide
          · exact ⟨dec_no (by decide), dec_no (by decide)⟩
          · exact ⟨itoa_no g3 (by decide), itoa_no g3 (by decide)⟩
          · exact ⟨itoa_no (hk n hn) (by decide), itoa_no (hk n hn) (by decide)⟩
        refine ⟨by rw [← h]; rfl, _, h.symm, ?_, ?_⟩
        · rw [el, join_map]
          intro hm
          rw [el] at hno
          rcases List.mem_append.1 hm with hm | hm
          · exact (hno crashW (by simp)).2 hm
          · obtain ⟨l, hl, hm⟩ := List.mem_flatten.1 hm
            obtain ⟨w, hw, rfl⟩ := List.mem_map.1 hl
            rcases List.mem_cons.1 hm with hm | hm
            · exact absurd hm (by decide)
            · exact (hno w (List.mem_cons_of_mem _ hw)).2 hm
        · unfold stepF
          rw [splitS_join (by rw [el]; simp) (fun w hw => (hno w hw).1), el]
          unfold stepL
          rw [List.headD_cons, if_pos rfl]
          unfold crashF
          simp only
          rw [soft_dec _ hx.1, num_itoa g3, (nums_iff _ x.keep).2 ⟨rfl, hk⟩]
          simp only [Option.some.injEq]
          cases x
          simp only at e0 g2 hc
          subst e0; subst g2; subst hc
          rfl
      · cases h
  · rw [if_neg hc] at h
    split at h
    · cases h
    · rename_i hg
      simp only [Bool.not_eq_true, Bool.or_eq_false_iff, bne_eq_false_iff_eq] at hg
      obtain ⟨⟨g1, g2⟩, g3⟩ := hg
      have gk : x.keep = [] := List.eq_nil_of_length_eq_zero g3
      split at h
      · rename_i ha
        split at h
        · cases h
        · rename_i hb
          simp only [Bool.not_eq_true, Bool.or_eq_false_iff, Bool.not_eq_false'] at hb
          obtain ⟨b1, b2⟩ := hb
          injection h with h
          have e0 : x.op = op0 := (opEq_iff _ _).1 b1
          have ha' : x.arm ≠ 0 := by simpa using ha
          have b3 := b2
          simp only [fits, Bool.and_eq_true, decide_eq_true_eq] at b3
          have et : decDigits x.arm.toNat = itoa x.arm := by rw [itoa_nat b3.1]
          have hp : 0 < x.arm := by omega
          have el : lineL x = [armW, itoa x.arm] := by unfold lineL; rw [if_neg hc, if_pos hp]
          have eb : armW ++ [32] ++ decDigits x.arm.toNat = join (lineL x) [32] := by
            rw [el, join_map, et]; simp
          rw [eb] at h
          refine ⟨by rw [← h]; rfl, _, h.symm, ?_, ?_⟩
          · rw [el, join_map]
            simp only [List.map_cons, List.map_nil, List.flatten_cons, List.flatten_nil, List.append_nil, List.mem_append, List.mem_cons, not_or]
            exact ⟨by decide, by decide, itoa_no b2 (by decide)⟩
          · unfold stepF
            rw [splitS_join (by rw [el]; simp) (fun w hw => by
              rw [el] at hw
              rcases List.mem_cons.1 hw with rfl | hw
              · decide
              · rw [List.mem_singleton.1 hw]; exact itoa_no b2 (by decide)), el]
            unfold stepL
            rw [List.headD_cons, if_neg (by decide), if_pos rfl]
            unfold armF
            simp only
            rw [num_itoa b2]
            simp only [if_pos hp, Option.some.injEq]
            cases x
            simp only at e0 g1 g2 gk hc
            simp only [Bool.not_eq_true] at hc
            subst e0; subst g1; subst g2; subst gk; subst hc
            rfl
      · rename_i ha
        have ha' : x.arm = 0 := by simpa using ha
        generalize hw : nameF x.op.kind x.op.sync = w at h
        obtain ⟨n, tl⟩ := w
        simp only at h
        split at h
        · cases h
        · rename_i hn
          have hmem := name_words hw hn
          have sp := words_spec _ hmem
          simp only at sp
          obtain ⟨_, _, s32, s10, sc, sa, sf, st⟩ := sp
          split at h
          · rename_i s o hr
            split at h
            · rename_i he
              injection h with h
              have eo : o = x.op := (opEq_iff _ _).1 he
              subst eo
              obtain ⟨r1, r2, r3⟩ := args_of_ref hx.2 st hr
              have el : lineL x = n :: tl.map (tellF x.op) := by
                unfold lineL
                rw [if_neg hc, if_neg (by omega)]
                unfold fieldsF
                rw [sf]
              have eb : s = join (lineL x) [32] := by rw [r2, el, join_map]
              rw [eb] at h
              refine ⟨by rw [← h]; rfl, _, h.symm, ?_, ?_⟩
              · rw [el, join_map]
                intro hm
                rcases List.mem_append.1 hm with hm | hm
                · exact s10 hm
                · obtain ⟨l, hl, hm⟩ := List.mem_flatten.1 hm
                  obtain ⟨v, hv, rfl⟩ := List.mem_map.1 hl
                  rcases List.mem_cons.1 hm with hm | hm
                  · exact absurd hm (by decide)
                  · exact (r3 v hv).2 hm
              · unfold stepF
                rw [splitS_join (by rw [el]; simp) (fun v hv => by
                  rw [el] at hv
                  rcases List.mem_cons.1 hv with rfl | hv
                  · exact s32
                  · exact (r3 v hv).1), el]
                unfold stepL
                rw [if_neg (by simpa using sc), if_neg (by simpa using sa)]
                unfold operationF
                rw [find_name hmem (l := n :: tl.map (tellF x.op)) rfl (by simp; omega)]
                simp only [List.drop_succ_cons, List.drop_zero]
                rw [r1]
                simp only [Option.map_some, Option.some.injEq]
                cases x
                simp only at g1 g2 gk hc ha'
                simp only [Bool.not_eq_true] at hc
                subst g1; subst g2; subst gk; subst hc; subst ha'
                rfl
            · cases h
          · cases h

/-- What is read is what the reference prints. -/
theorem read_line {b : Bytes} {x : StepV} (h : stepF b = some x) : refLine x = some (b ++ [10]) ∧ StepOk x := by
  unfold stepF at h
  have hj := join_splitS b
  have hn := splitS_ne b
  generalize splitS b = l at h hj hn
  subst hj
  unfold stepL at h
  split at h
  · rename_i hc
    unfold crashF at h
    split at h
    · rename_i l0 s t r
      simp only [List.headD_cons] at hc
      subst hc
      split at h
      · rename_i u n k h1 h2 h3
        injection h with h
        subst h
        obtain ⟨rfl, hu⟩ := soft_some h1
        obtain ⟨rfl, hf⟩ := num_some h2
        obtain ⟨rfl, hk⟩ := (nums_iff _ _).1 h3
        have hf' := hf
        simp only [fits, Bool.and_eq_true, decide_eq_true_eq] at hf'
        refine ⟨?_, hu, zeros_len⟩
        show refLine ⟨op0, 0, true, k, u, n⟩ = _
        have e1 : opEq op0 op0 = true := (opEq_iff op0 op0).2 rfl
        have e2 : (!opEq op0 op0 || (0 : Int) != 0 || !fits n) = false := by simp [e1, hf]
        have e3 := (keep_ref k (crashW ++ [32] ++ decDigits u ++ [32] ++ decDigits n.toNat) _).2 ⟨hk, rfl⟩
        simp only [refLine, if_true, e2, e3, join_map, itoa_nat hf'.1, Bool.false_eq_true, if_false]
        simp
      · cases h
    · cases h
  · rename_i hc
    split at h
    · rename_i ha
      unfold armF at h
      split at h
      · rename_i l0 s
        simp only [List.headD_cons] at ha
        subst ha
        split at h
        · rename_i n h1
          split at h
          · rename_i hp
            injection h with h
            subst h
            obtain ⟨rfl, hf⟩ := num_some h1
            have hf' := hf
            simp only [fits, Bool.and_eq_true, decide_eq_true_eq] at hf'
            refine ⟨?_, by simp [step0], zeros_len⟩
            show refLine ⟨op0, n, false, [], 0, 0⟩ = _
            have e1 : opEq op0 op0 = true := (opEq_iff op0 op0).2 rfl
            have e2 : (!opEq op0 op0 || !fits n) = false := by simp [e1, hf]
            have e3 : (n != 0) = true := by simp; omega
            simp only [refLine, e2, e3, join_map, itoa_nat hf'.1, Bool.false_eq_true, if_false, if_true]
            simp
          · cases h
        · cases h
      · cases h
    · rename_i ha
      cases ho : operationF l with
      | none => simp [ho] at h
      | some o =>
        rw [ho] at h
        simp only [Option.map_some, Option.some.injEq] at h
        subst h
        unfold operationF at ho
        split at ho
        · rename_i w hw
          have hmem := List.mem_of_find?_eq_some hw
          have hp := List.find?_some hw
          simp only [Bool.and_eq_true, beq_iff_eq] at hp
          obtain ⟨p1, p2⟩ := hp
          obtain ⟨n, k, sy, tl⟩ := w
          have sp := words_spec _ hmem
          simp only at sp p1 p2 ho
          obtain ⟨sn, s0, s32, s10, sc, sa, sf, st⟩ := sp
          cases l with
          | nil => exact absurd rfl hn
          | cons a r =>
            simp only [List.headD_cons] at p1
            subst p1
            simp only [List.drop_succ_cons, List.drop_zero] at ho
            obtain ⟨q1, q2, q3, q4, q5⟩ := ref_of_args n st (by simp at p2; omega) ho
            refine ⟨?_, by simp [step0], q3⟩
            show refLine ⟨o, 0, false, [], 0, 0⟩ = _
            have e1 : opEq o o = true := (opEq_iff o o).2 rfl
            simp only [refLine, q1, q2, sn, s0, q5, e1, join_map, Bool.false_eq_true, if_false, if_true]
            simp
        · cases ho

end Go.Proofs.YtjjlmhlfobmpgaaDoor.Tx
