/-
What the functions of layer 25 (text) compute, as plain Lean functions on lists of bytes: no program here.
-/
import Derived.Lib.AtoiAll
import Derived.Lib.ParseIntBCases
import Derived.Lib.ItoaNum
import Derived.Lib.ItoaLen
import Derived.Lib.Split
import Derived.Lib.SplitLaws
import Derived.Lib.Join
namespace Go.Proofs.YtjjlmhlfobmpgaaDoor.Tx
open Go.Lib

abbrev Bytes := List UInt8

/-- An operation. -/
structure OpV where
  kind : Int
  id : Int
  block : Int
  data : Bytes
  sync : Bool
  policy : Int

def zeros : Bytes := List.replicate 32 0
def op0 : OpV := ⟨0, 0, 0, zeros, false, 0⟩

/-- A step. -/
structure StepV where
  op : OpV
  arm : Int
  crash : Bool
  keep : List Int
  soft : Nat
  tear : Int

def step0 : StepV := ⟨op0, 0, false, [], 0, 0⟩

/-- The words of all operations: its bytes, its kind, its sync, what its line tells. -/
def words : List (Bytes × Int × Bool × Bytes) :=
  [([102, 111, 114, 109, 97, 116], 1, false, []), ([109, 111, 117, 110, 116], 2, false, []), ([98, 101, 103, 105, 110], 3, false, []), ([102, 108, 117, 115, 104], 9, false, []),
   ([99, 104, 101, 99, 107, 112, 111, 105, 110, 116], 10, false, []), ([115, 116, 97, 116], 12, false, []), ([114, 101, 97, 100], 4, false, [105, 98]), ([119, 114, 105, 116, 101], 5, false, [105, 98, 100]),
   ([116, 114, 105, 109], 6, false, [105, 98]), ([99, 111, 109, 109, 105, 116], 7, false, [105]), ([115, 121, 110, 99], 7, true, [105]), ([97, 98, 111, 114, 116], 8, false, [105]),
   ([99, 108, 101, 97, 110], 11, false, [112])]

def hexDig (n : Nat) : UInt8 := if n < 10 then UInt8.ofNat (48 + n) else UInt8.ofNat (87 + n)

def hexF (d : Bytes) : Bytes := d.flatMap fun b => [hexDig (b.toNat / 16), hexDig (b.toNat % 16)]

def tellF (o : OpV) (c : UInt8) : Bytes :=
  if c = 105 then itoa o.id else if c = 98 then itoa o.block else if c = 112 then itoa o.policy else hexF o.data

def fieldsF (o : OpV) : List Bytes :=
  match words.find? (fun w => w.2.1 == o.kind && w.2.2.1 == o.sync) with
  | none => []
  | some w => w.1 :: w.2.2.2.map (tellF o)

def crashW : Bytes := [99, 114, 97, 115, 104]
def armW : Bytes := [97, 114, 109]

def lineL (x : StepV) : List Bytes :=
  if x.crash then crashW :: decDigits x.soft :: itoa x.tear :: x.keep.map itoa
  else if 0 < x.arm then [armW, itoa x.arm]
  else fieldsF x.op

/-- text.line. -/
def lineF (x : StepV) : Bytes := join (lineL x) [32] ++ [10]

/-- text.number: the number, where there is one. -/
def numV (s : Bytes) : Option Int :=
  match atoiAll s with
  | .ok v => if 0 ≤ v ∧ v ≤ 999999 ∧ itoa v = s then some v else none
  | _ => none

def hexVal (c : UInt8) : Option Nat :=
  if 48 ≤ c.toNat ∧ c.toNat ≤ 57 then some (c.toNat - 48) else if 97 ≤ c.toNat ∧ c.toNat ≤ 102 then some (c.toNat - 87) else none

def dataPairs : Bytes → Option Bytes
  | [] => some []
  | [_] => none
  | a :: b :: r =>
    match hexVal a, hexVal b, dataPairs r with
    | some x, some y, some t => some (UInt8.ofNat (16 * x + y) :: t)
    | _, _, _ => none

/-- text.data. -/
def dataF (s : Bytes) : Option Bytes := if s.length = 64 then dataPairs s else none

def argF (o : OpV) (c : UInt8) (f : Bytes) : Option OpV :=
  if c = 105 then (numV f).map fun n => { o with id := n }
  else if c = 98 then (numV f).map fun n => { o with block := n }
  else if c = 112 then (numV f).map fun n => { o with policy := n }
  else (dataF f).map fun d => { o with data := d }

def argsF (o : OpV) : Bytes → List Bytes → Option OpV
  | c :: t, f :: r => match argF o c f with
    | some o' => argsF o' t r
    | none => none
  | _, _ => some o

/-- text.operation. -/
def operationF (l : List Bytes) : Option OpV :=
  match words.find? (fun w => w.1 == l.headD [] && l.length == 1 + w.2.2.2.length) with
  | some w => argsF { op0 with kind := w.2.1, sync := w.2.2.1 } w.2.2.2 (l.drop 1)
  | none => none

def softV (s : Bytes) : Option Nat :=
  match parseUintB 64 s with
  | .ok u => if decDigits u = s then some u else none
  | _ => none

def numsF : List Bytes → Option (List Int)
  | [] => some []
  | f :: r => match numV f, numsF r with
    | some n, some t => some (n :: t)
    | _, _ => none

/-- text.crash. -/
def crashF (l : List Bytes) : Option StepV :=
  match l with
  | _ :: s :: t :: r =>
    match softV s, numV t, numsF r with
    | some u, some n, some k => some { step0 with crash := true, keep := k, soft := u, tear := n }
    | _, _, _ => none
  | _ => none

def armF (l : List Bytes) : Option StepV :=
  match l with
  | [_, s] => match numV s with
    | some n => if 0 < n then some { step0 with arm := n } else none
    | none => none
  | _ => none

/-- text.step, of the words of a line. -/
def stepL (l : List Bytes) : Option StepV :=
  if l.headD [] = crashW then crashF l
  else if l.headD [] = armW then armF l
  else (operationF l).map fun o => { step0 with op := o }

/-- The words between the spaces. -/
def splitS : Bytes → List Bytes
  | [] => [[]]
  | c :: r => if c = 32 then [] :: splitS r else match splitS r with
    | h :: t => (c :: h) :: t
    | [] => [[c]]

def stepF (s : Bytes) : Option StepV := stepL (splitS s)

/-- text.same. -/
def opEq (a b : OpV) : Bool := a.kind == b.kind && a.id == b.id && a.block == b.block && a.data == b.data && a.sync == b.sync && a.policy == b.policy
def sameF (a b : StepV) : Bool := opEq a.op b.op && a.arm == b.arm && a.crash == b.crash && a.soft == b.soft && a.tear == b.tear && a.keep == b.keep

/-- text.Plain. -/
def plainF (x : StepV) : Bool :=
  match stepF (trimSuffix (lineF x) [10]) with
  | some y => sameF x y
  | none => false

/-- The first line and what stands behind it. -/
def cutL : Bytes → Option (Bytes × Bytes)
  | [] => none
  | c :: r => if c = 10 then some ([], r) else match cutL r with
    | some (a, b) => some (c :: a, b)
    | none => none

/-- text.Parse: the steps; or the number of the first line that is none. -/
def parseF (n : Nat) : Nat → Bytes → List StepV → Except Nat (List StepV)
  | 0, _, _ => .error n
  | k + 1, s, out =>
    if s = [] then .ok out
    else match cutL s with
    | none => .error n
    | some (a, b) => match stepF a with
      | none => .error n
      | some x => parseF (n + 1) k b (out ++ [x])

/-- windrowref25.fits. -/
def fits (n : Int) : Bool := decide (0 ≤ n) && decide (n ≤ 999999)

def nameF (kind : Int) (sync : Bool) : Bytes × Bytes :=
  if sync then (if kind = 7 then ([115, 121, 110, 99], [105]) else ([], []))
  else if kind = 1 then ([102, 111, 114, 109, 97, 116], []) else if kind = 2 then ([109, 111, 117, 110, 116], []) else if kind = 3 then ([98, 101, 103, 105, 110], [])
  else if kind = 4 then ([114, 101, 97, 100], [105, 98]) else if kind = 5 then ([119, 114, 105, 116, 101], [105, 98, 100]) else if kind = 6 then ([116, 114, 105, 109], [105, 98])
  else if kind = 7 then ([99, 111, 109, 109, 105, 116], [105]) else if kind = 8 then ([97, 98, 111, 114, 116], [105]) else if kind = 9 then ([102, 108, 117, 115, 104], [])
  else if kind = 10 then ([99, 104, 101, 99, 107, 112, 111, 105, 110, 116], []) else if kind = 11 then ([99, 108, 101, 97, 110], [112]) else if kind = 12 then ([115, 116, 97, 116], [])
  else ([], [])

/-- One field of a line, as the reference has it: what is told so far, and the operation of which it is told. -/
def refArg (x : OpV) (c : UInt8) (s : Bytes) (o : OpV) : Option (Bytes × OpV) :=
  if c = 100 then some (s ++ [32] ++ hexF x.data, { o with data := x.data })
  else
    let n := if c = 105 then x.id else if c = 98 then x.block else if c = 112 then x.policy else 0
    let o' := if c = 105 then { o with id := x.id } else if c = 98 then { o with block := x.block } else if c = 112 then { o with policy := x.policy } else o
    if fits n then some (s ++ [32] ++ decDigits n.toNat, o') else none

def refArgs (x : OpV) : Bytes → Bytes → OpV → Option (Bytes × OpV)
  | [], s, o => some (s, o)
  | c :: t, s, o => match refArg x c s o with
    | some (s', o') => refArgs x t s' o'
    | none => none

def refKeep : List Int → Bytes → Option Bytes
  | [], s => some s
  | n :: r, s => if fits n then refKeep r (s ++ [32] ++ decDigits n.toNat) else none

/-- windrowref25.Line. -/
def refLine (x : StepV) : Option Bytes :=
  if x.crash then
    if !opEq x.op op0 || x.arm != 0 || !fits x.tear then none
    else match refKeep x.keep (crashW ++ [32] ++ decDigits x.soft ++ [32] ++ decDigits x.tear.toNat) with
      | some s => some (s ++ [10])
      | none => none
  else if x.soft != 0 || x.tear != 0 || x.keep.length != 0 then none
  else if x.arm != 0 then
    if !opEq x.op op0 || !fits x.arm then none else some (armW ++ [32] ++ decDigits x.arm.toNat ++ [10])
  else
    let w := nameF x.op.kind x.op.sync
    if w.1 = [] then none
    else match refArgs x.op w.2 w.1 { op0 with kind := x.op.kind, sync := x.op.sync } with
      | some (s, o) => if opEq o x.op then some (s ++ [10]) else none
      | none => none

/-- windrowref25.Print. -/
def refPrint : List StepV → Bytes → Option Bytes
  | [], s => some s
  | x :: r, s => match refLine x with
    | some t => refPrint r (s ++ t)
    | none => none

end Go.Proofs.YtjjlmhlfobmpgaaDoor.Tx
