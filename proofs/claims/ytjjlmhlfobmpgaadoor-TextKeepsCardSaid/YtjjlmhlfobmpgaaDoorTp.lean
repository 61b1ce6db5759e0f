/-
The laws of layer 25 on plain lists: what is read is printed as it was, what is printed is read as it was, line by line. No program here.
-/
import Derived.Test.YtjjlmhlfobmpgaaDoorTw
namespace Go.Proofs.YtjjlmhlfobmpgaaDoor.Tx
open Go.Lib

theorem trim_snoc (b : Bytes) : trimSuffix (b ++ [10]) [10] = b := by
  unfold trimSuffix hasSuffix
  simp

theorem lineF_trim (x : StepV) : trimSuffix (lineF x) [10] = join (lineL x) [32] := trim_snoc _

/-- Plain is what the reference has a line of. -/
theorem plain_eq {x : StepV} (hx : StepOk x) : plainF x = (refLine x).isSome := by
  unfold plainF
  cases h : refLine x with
  | some t =>
    obtain ⟨h1, b, rfl, hb, hs⟩ := line_read hx h
    rw [h1, trim_snoc, hs]
    simpa using (sameF_iff x x).2 rfl
  | none =>
    rw [lineF_trim]
    cases hs : stepF (join (lineL x) [32]) with
    | none => rfl
    | some y =>
      have hr := read_line hs
      cases hq : sameF x y with
      | false => simp [hq]
      | true =>
        have := (sameF_iff x y).1 hq
        subst this
        rw [h] at hr
        cases hr.1

def printF (l : List StepV) : Bytes := l.flatMap lineF

theorem refPrint_some : ∀ (l : List StepV) (s t : Bytes), (∀ x ∈ l, StepOk x) → refPrint l s = some t → t = s ++ printF l ∧ ∀ x ∈ l, refLine x = some (lineF x)
  | [], s, t, _, h => by
    simp only [refPrint, Option.some.injEq] at h
    exact ⟨by simp [printF, h], by simp⟩
  | x :: r, s, t, ho, h => by
    unfold refPrint at h
    split at h
    · rename_i a ha
      have h1 := (line_read (ho x (by simp)) ha).1
      obtain ⟨h2, h3⟩ := refPrint_some r _ _ (fun y hy => ho y (List.mem_cons_of_mem _ hy)) h
      refine ⟨by rw [h2, ← h1]; simp [printF], fun y hy => ?_⟩
      rcases List.mem_cons.1 hy with rfl | hy
      · rw [ha, h1]
      · exact h3 y hy
    · cases h

theorem refPrint_of : ∀ (l : List StepV) (s : Bytes), (∀ x ∈ l, refLine x = some (lineF x)) → refPrint l s = some (s ++ printF l)
  | [], s, _ => by simp [refPrint, printF]
  | x :: r, s, h => by
    unfold refPrint
    rw [h x (by simp)]
    simp only
    rw [refPrint_of r _ (fun y hy => h y (List.mem_cons_of_mem _ hy))]
    simp [printF]

/-- A plain step: its line is one line, and read as the step. -/
structure PlainS (x : StepV) : Prop where
  ref : refLine x = some (lineF x)
  ok : StepOk x
  read : stepF (join (lineL x) [32]) = some x
  no : (10 : UInt8) ∉ join (lineL x) [32]

theorem plainS_of_ref {x : StepV} (hx : StepOk x) {t : Bytes} (h : refLine x = some t) : PlainS x := by
  obtain ⟨h1, b, rfl, hb, hs⟩ := line_read hx h
  have e : join (lineL x) [32] = b := List.append_cancel_right h1
  exact ⟨by rw [h, h1], hx, by rw [e]; exact hs, by rw [e]; exact hb⟩

theorem plainS_of_read {b : Bytes} {x : StepV} (h : stepF b = some x) : PlainS x ∧ b = join (lineL x) [32] := by
  obtain ⟨h1, h2⟩ := read_line h
  have h3 := (line_read h2 h1).1
  exact ⟨plainS_of_ref h2 h1, (List.append_cancel_right h3).symm⟩

theorem plainS_of_plain {x : StepV} (hx : StepOk x) (h : plainF x = true) : PlainS x := by
  rw [plain_eq hx] at h
  obtain ⟨t, ht⟩ := Option.isSome_iff_exists.1 h
  exact plainS_of_ref hx ht

theorem cutL_app {b : Bytes} (h : (10 : UInt8) ∉ b) (r : Bytes) : cutL (b ++ 10 :: r) = some (b, r) := by
  induction b with
  | nil => simp [cutL]
  | cons c t ih =>
    have hc : ¬ c = 10 := fun e => h (by simp [e])
    have ht : (10 : UInt8) ∉ t := fun e => h (List.mem_cons_of_mem _ e)
    simp [cutL, hc, ih ht]

theorem cutL_some : ∀ {s a r : Bytes}, cutL s = some (a, r) → s = a ++ 10 :: r ∧ (10 : UInt8) ∉ a
  | [], a, r, h => by simp [cutL] at h
  | c :: t, a, r, h => by
    unfold cutL at h
    split at h
    · rename_i hc
      simp only [Option.some.injEq, Prod.mk.injEq] at h
      obtain ⟨rfl, rfl⟩ := h
      simp [hc]
    · rename_i hc
      split at h
      · rename_i a' b' hr
        simp only [Option.some.injEq, Prod.mk.injEq] at h
        obtain ⟨rfl, rfl⟩ := h
        obtain ⟨h1, h2⟩ := cutL_some hr
        refine ⟨by rw [h1]; rfl, fun e => ?_⟩
        rcases List.mem_cons.1 e with e | e
        · exact hc e.symm
        · exact h2 e
      · cases h

theorem cutL_none : ∀ {s : Bytes}, cutL s = none → (10 : UInt8) ∉ s
  | [], _ => by simp
  | c :: t, h => by
    unfold cutL at h
    split at h
    · cases h
    · rename_i hc
      split at h
      · cases h
      · rename_i hr
        intro e
        rcases List.mem_cons.1 e with e | e
        · exact hc e.symm
        · exact cutL_none hr e

theorem lineF_eq (x : StepV) : lineF x = join (lineL x) [32] ++ [10] := rfl
theorem lineF_app (x : StepV) (r : Bytes) : lineF x ++ r = join (lineL x) [32] ++ 10 :: r := by simp [lineF]
theorem printF_cons (x : StepV) (l : List StepV) : printF (x :: l) = lineF x ++ printF l := by simp [printF]
theorem printF_app (a b : List StepV) : printF (a ++ b) = printF a ++ printF b := by simp [printF]

/-- Lines that are read, ahead of whatever text. -/
theorem parse_lines : ∀ (l : List StepV) (n f : Nat) (r : Bytes) (out : List StepV), (∀ x ∈ l, PlainS x) → l.length ≤ f → parseF n f (printF l ++ r) out = parseF (n + l.length) (f - l.length) r (out ++ l)
  | [], n, f, r, out, _, _ => by simp [printF]
  | x :: l, n, f, r, out, h, hf => by
    simp only [List.length_cons] at hf
    obtain ⟨f, rfl⟩ : ∃ f', f = f' + 1 := ⟨f - 1, by omega⟩
    have hx := h x (by simp)
    rw [printF_cons, List.append_assoc, lineF_app]
    conv => lhs; unfold parseF
    rw [if_neg (by simp), cutL_app hx.no]
    simp only
    rw [hx.read]
    simp only
    rw [parse_lines l (n + 1) f r _ (fun y hy => h y (List.mem_cons_of_mem _ hy)) (by omega)]
    simp only [List.length_cons, List.append_assoc, List.singleton_append]
    congr 1 <;> omega

theorem parse_nil (n f : Nat) (out : List StepV) : parseF n (f + 1) [] out = .ok out := by simp [parseF]

/-- What is read. -/
theorem parse_ok : ∀ (f n : Nat) (s : Bytes) (out r : List StepV), parseF n f s out = .ok r → ∃ l, r = out ++ l ∧ s = printF l ∧ ∀ x ∈ l, PlainS x
  | 0, n, s, out, r, h => by simp [parseF] at h
  | f + 1, n, s, out, r, h => by
    unfold parseF at h
    split at h
    · rename_i hs
      injection h with h
      exact ⟨[], by simp [h], by simp [printF, hs], by simp⟩
    · split at h
      · cases h
      · rename_i a b hc
        split at h
        · cases h
        · rename_i x hx
          obtain ⟨l, h1, h2, h3⟩ := parse_ok f _ _ _ _ h
          obtain ⟨h4, h5⟩ := plainS_of_read hx
          refine ⟨x :: l, by rw [h1]; simp, ?_, fun y hy => ?_⟩
          · rw [(cutL_some hc).1, printF_cons, lineF_app, ← h5, h2]
          · rcases List.mem_cons.1 hy with rfl | hy
            · exact h4
            · exact h3 y hy

/-- What isn't. -/
theorem parse_err : ∀ (f n : Nat) (s : Bytes) (out : List StepV) (m : Nat), s.length < f → parseF n f s out = .error m →
    ∃ l r, m = n + l.length ∧ s = printF l ++ r ∧ (∀ x ∈ l, PlainS x) ∧ r ≠ [] ∧ (cutL r = none ∨ ∃ a b, cutL r = some (a, b) ∧ stepF a = none)
  | 0, n, s, out, m, hf, h => by omega
  | f + 1, n, s, out, m, hf, h => by
    unfold parseF at h
    split at h
    · cases h
    · rename_i hs
      split at h
      · rename_i hc
        injection h with h
        exact ⟨[], s, by simp [h], by simp [printF], by simp, hs, .inl hc⟩
      · rename_i a b hc
        have hab := (cutL_some hc).1
        split at h
        · rename_i hx
          injection h with h
          exact ⟨[], s, by simp [h], by simp [printF], by simp, hs, .inr ⟨a, b, hc, hx⟩⟩
        · rename_i x hx
          obtain ⟨l, r, h1, h2, h3, h4, h5⟩ := parse_err f (n + 1) b _ m (by rw [hab] at hf; simp at hf; omega) h
          obtain ⟨p1, p2⟩ := plainS_of_read hx
          refine ⟨x :: l, r, by rw [h1]; simp; omega, ?_, fun y hy => ?_, h4, h5⟩
          · rw [hab, printF_cons, List.append_assoc, lineF_app, ← p2, h2]
          · rcases List.mem_cons.1 hy with rfl | hy
            · exact p1
            · exact h3 y hy

def parseA (s : Bytes) : Except Nat (List StepV) := parseF 1 (s.length + 1) s []

theorem printF_len_ge : ∀ l : List StepV, l.length ≤ (printF l).length
  | [] => by simp
  | x :: l => by
    have := printF_len_ge l
    rw [printF_cons, lineF_eq]
    simp; omega

theorem parse_print {l : List StepV} (h : ∀ x ∈ l, PlainS x) : parseA (printF l) = .ok l := by
  unfold parseA
  have h1 := printF_len_ge l
  have := parse_lines l 1 ((printF l).length + 1) [] [] h (by omega)
  rw [List.append_nil] at this
  rw [this]
  obtain ⟨k, hk⟩ : ∃ k, (printF l).length + 1 - l.length = k + 1 := ⟨(printF l).length - l.length, by omega⟩
  rw [hk, parse_nil]
  rfl

theorem parseA_ok {s : Bytes} {l : List StepV} (h : parseA s = .ok l) : s = printF l ∧ ∀ x ∈ l, PlainS x := by
  obtain ⟨l', h1, h2, h3⟩ := parse_ok _ _ _ _ _ h
  simp only [List.nil_append] at h1
  subst h1
  exact ⟨h2, h3⟩

/-- A text of one bad line. -/
theorem parse_bad {r : Bytes} (hr : r ≠ []) (h : cutL r = none ∨ ∃ a b, cutL r = some (a, b) ∧ stepF a = none) : parseA r = .error 1 := by
  unfold parseA parseF
  rw [if_neg hr]
  rcases h with h | ⟨a, b, h, h2⟩
  · rw [h]
  · rw [h]; simp only; rw [h2]

/-! ### line feeds -/

/-- Where the line ends that begins at p. -/
def nl (s : Bytes) (p : Nat) : Nat := p + ((s.drop p).takeWhile (· != 10)).length

theorem takeWhile_no : ∀ {b : Bytes}, (10 : UInt8) ∉ b → ∀ r, (b ++ 10 :: r).takeWhile (· != 10) = b
  | [], _, r => by simp
  | c :: t, h, r => by
    have hc : ¬ c = 10 := fun e => h (by simp [e])
    have ht : (10 : UInt8) ∉ t := fun e => h (List.mem_cons_of_mem _ e)
    simp [hc, takeWhile_no ht r]

theorem takeWhile_all : ∀ {b : Bytes}, (10 : UInt8) ∉ b → b.takeWhile (· != 10) = b
  | [], _ => by simp
  | c :: t, h => by
    have hc : ¬ c = 10 := fun e => h (by simp [e])
    have ht : (10 : UInt8) ∉ t := fun e => h (List.mem_cons_of_mem _ e)
    simp [hc, takeWhile_all ht]

theorem nl_at {s p : Bytes} {b r : Bytes} (h : s = p ++ (b ++ 10 :: r)) (hb : (10 : UInt8) ∉ b) : nl s p.length = p.length + b.length := by
  subst h
  unfold nl
  rw [List.drop_left, takeWhile_no hb]

theorem nl_end {s p : Bytes} {b : Bytes} (h : s = p ++ b) (hb : (10 : UInt8) ∉ b) : nl s p.length = s.length := by
  subst h
  unfold nl
  rw [List.drop_left, takeWhile_all hb]
  simp

theorem nl_ge (s : Bytes) (p : Nat) : p ≤ nl s p := by unfold nl; omega
theorem nl_le {s : Bytes} {p : Nat} (h : p ≤ s.length) : nl s p ≤ s.length := by
  unfold nl
  have := (List.takeWhile_prefix (l := s.drop p) (fun x : UInt8 => x != 10)).length_le
  rw [List.length_drop] at this
  omega

/-- A step of the search. -/
theorem nl_step {s : Bytes} {p : Nat} {c : UInt8} (hc : s[p]? = some c) (hne : c ≠ 10) : nl s (p + 1) = nl s p := by
  unfold nl
  obtain ⟨hlt, he⟩ := List.getElem?_eq_some_iff.1 hc
  rw [List.drop_eq_getElem_cons hlt, he]
  simp [hne]
  omega
theorem nl_stop {s : Bytes} {p : Nat} (hc : s[p]? = some 10) : nl s p = p := by
  unfold nl
  obtain ⟨hlt, he⟩ := List.getElem?_eq_some_iff.1 hc
  rw [List.drop_eq_getElem_cons hlt, he]
  simp
theorem nl_out {s : Bytes} {p : Nat} (h : s.length ≤ p) : nl s p = p := by
  unfold nl
  rw [List.drop_eq_nil_of_le h]
  simp
theorem nl_hit {s : Bytes} {p : Nat} (h : nl s p < s.length) : s[nl s p]? = some 10 := by
  suffices H : ∀ (d p : Nat), s.length - p = d → nl s p < s.length → s[nl s p]? = some 10 from H _ p rfl h
  intro d
  induction d with
  | zero =>
    intro p hd hlt
    have := nl_ge s p
    omega
  | succ d ih =>
    intro p hd hlt
    have hp : p < s.length := by omega
    have hc : s[p]? = some s[p] := List.getElem?_eq_getElem hp
    by_cases h10 : s[p] = 10
    · rw [h10] at hc
      rw [nl_stop hc]; exact hc
    · rw [← nl_step hc h10] at hlt ⊢
      exact ih (p + 1) (by omega) hlt
theorem nl_before {s : Bytes} {p k : Nat} (h1 : p ≤ k) (h2 : k < nl s p) : ∃ c, s[k]? = some c ∧ c ≠ 10 := by
  suffices H : ∀ (d p : Nat), k - p = d → p ≤ k → k < nl s p → ∃ c, s[k]? = some c ∧ c ≠ 10 from H _ p rfl h1 h2
  intro d
  induction d with
  | zero =>
    intro p hd h1 h2
    have hkp : k = p := by omega
    subst hkp
    by_cases hlt : k < s.length
    · refine ⟨s[k], List.getElem?_eq_getElem hlt, fun e => ?_⟩
      have hc : s[k]? = some 10 := by rw [← e]; exact List.getElem?_eq_getElem hlt
      rw [nl_stop hc] at h2
      omega
    · rw [nl_out (by omega)] at h2; omega
  | succ d ih =>
    intro p hd h1 h2
    by_cases hlt : p < s.length
    · have hc : s[p]? = some s[p] := List.getElem?_eq_getElem hlt
      by_cases h10 : s[p] = 10
      · rw [h10] at hc
        rw [nl_stop hc] at h2
        omega
      · rw [← nl_step hc h10] at h2
        exact ih (p + 1) (by omega) (by omega) h2
    · rw [nl_out (by omega)] at h2; omega

/-- Where line k begins (from 0). -/
def fromF (s : Bytes) : Nat → Nat
  | 0 => 0
  | k + 1 => nl s (fromF s k) + 1

theorem line_split {l : List StepV} (i : Nat) (x : StepV) (h : l[i]? = some x) : printF l = printF (l.take i) ++ (join (lineL x) [32] ++ 10 :: printF (l.drop (i + 1))) := by
  have e : l = l.take i ++ x :: l.drop (i + 1) := by
    obtain ⟨hi, he⟩ := List.getElem?_eq_some_iff.1 h
    have h2 := List.drop_eq_getElem_cons hi
    rw [he] at h2
    rw [← h2, List.take_append_drop]
  conv => lhs; rw [e]
  rw [printF_app, printF_cons, lineF_app]

theorem take_split2 {l : List StepV} (i : Nat) (x : StepV) (h : l[i]? = some x) : printF (l.take (i + 1)) = printF (l.take i) ++ (join (lineL x) [32] ++ [10]) := by
  rw [List.take_add_one, h, printF_app]
  simp [printF, lineF]

/-- Where the lines of steps begin. -/
theorem from_print {s r : Bytes} {l : List StepV} (hs : s = printF l ++ r) (hl : ∀ x ∈ l, PlainS x) : ∀ k, k ≤ l.length → fromF s k = (printF (l.take k)).length
  | 0, _ => by simp [fromF, printF]
  | k + 1, hk => by
    have hx : l[k]? = some l[k] := List.getElem?_eq_getElem (by omega)
    unfold fromF
    rw [from_print hs hl k (by omega), nl_at (b := join (lineL l[k]) [32]) (r := printF (l.drop (k + 1)) ++ r) (by rw [hs, line_split k _ hx]; simp) (hl _ (List.mem_of_getElem? hx)).no, take_split2 k _ hx]
    simp; omega

theorem count_line {x : StepV} (h : PlainS x) : (lineF x).count 10 = 1 := by
  rw [lineF_eq, List.count_append, List.count_eq_zero.2 h.no]
  rfl
theorem count_print : ∀ {l : List StepV}, (∀ x ∈ l, PlainS x) → (printF l).count 10 = l.length
  | [], _ => rfl
  | x :: l, h => by
    rw [printF_cons, List.count_append, count_line (h x (by simp)), count_print (fun y hy => h y (List.mem_cons_of_mem _ hy))]
    simp; omega

/-! ### the laws -/

/-- TextReads, of a text that isn't read. -/
theorem reads_err {s : Bytes} {m : Nat} (h : parseA s = .error m) :
    1 ≤ m ∧ m ≤ s.count 10 + 1 ∧ ∃ a b : Bytes, fromF s (m - 1) = a.length ∧ s.take a.length = a ∧ a.length ≤ s.length ∧ (∃ l, parseA a = .ok l) ∧
      nl s a.length ≤ s.length ∧ b = (s.take (if nl s a.length < s.length then nl s a.length + 1 else nl s a.length)).drop a.length ∧ parseA b = .error 1 := by
  obtain ⟨l, r, h1, h2, h3, h4, h5⟩ := parse_err _ _ _ _ _ (by omega) h
  have hc := count_print h3
  have hf := from_print h2 h3 l.length (Nat.le_refl _)
  rw [List.take_length] at hf
  refine ⟨by omega, by rw [h2, List.count_append, hc]; omega, printF l, _, by rw [h1, Nat.add_sub_cancel_left]; exact hf, by rw [h2]; simp, by rw [h2]; simp, ⟨l, parse_print h3⟩, nl_le (by rw [h2]; simp), rfl, ?_⟩
  rcases h5 with h5 | ⟨a, b, h5, h6⟩
  · have hn := nl_end h2 (cutL_none h5)
    rw [hn, if_neg (by omega), List.take_length, h2, List.drop_left]
    exact parse_bad h4 (.inl h5)
  · obtain ⟨e1, e2⟩ := cutL_some h5
    have hn := nl_at (s := s) (p := printF l) (b := a) (r := b) (by rw [h2, e1]) e2
    have hlen : s.length = (printF l).length + (a.length + (b.length + 1)) := by rw [h2, e1]; simp
    rw [hn, if_pos (by omega)]
    have e3 : s = (printF l ++ (a ++ [10])) ++ b := by rw [h2, e1]; simp
    have e4 : s.take ((printF l).length + a.length + 1) = printF l ++ (a ++ [10]) := by
      rw [e3, List.take_left' (by simp; omega)]
    rw [e4, List.drop_left]
    exact parse_bad (by simp) (.inr ⟨a, [], by rw [cutL_app e2], h6⟩)

/-- TextLines. -/
theorem lines_ok {s : Bytes} {l : List StepV} (h : parseA s = .ok l) : l.length = s.count 10 ∧ fromF s l.length = s.length ∧
    ∀ (i : Nat) (x : StepV), l[i]? = some x → fromF s i ≤ s.length ∧ nl s (fromF s i) < s.length ∧ parseA ((s.take (nl s (fromF s i) + 1)).drop (fromF s i)) = .ok [x] := by
  obtain ⟨h1, h2⟩ := parseA_ok h
  have h1' : s = printF l ++ [] := by simp [h1]
  refine ⟨by rw [h1, count_print h2], by rw [from_print h1' h2 _ (Nat.le_refl _), List.take_length, h1], fun i x hx => ?_⟩
  have hi : i < l.length := (List.getElem?_eq_some_iff.1 hx).1
  have hp := h2 x (List.mem_of_getElem? hx)
  have hsp := line_split i x hx
  have hf := from_print h1' h2 i (by omega)
  have hn := nl_at (s := s) (p := printF (l.take i)) (b := join (lineL x) [32]) (r := printF (l.drop (i + 1))) (by rw [h1]; exact hsp) hp.no
  have hlen : s.length = (printF (l.take i)).length + ((join (lineL x) [32]).length + ((printF (l.drop (i + 1))).length + 1)) := by rw [h1, hsp]; simp
  rw [hf, hn]
  refine ⟨by omega, by omega, ?_⟩
  have e : s = (printF (l.take i) ++ lineF x) ++ printF (l.drop (i + 1)) := by rw [h1, hsp, lineF_eq]; simp
  have e2 : s.take ((printF (l.take i)).length + (join (lineL x) [32]).length + 1) = printF (l.take i) ++ lineF x := by
    rw [e, List.take_left' (by rw [lineF_eq]; simp; omega)]
  rw [e2, List.drop_left]
  have := parse_print (l := [x]) (by simpa using hp)
  simpa [printF] using this

end Go.Proofs.YtjjlmhlfobmpgaaDoor.Tx
