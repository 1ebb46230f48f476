/- The plain functions that say what the program's layers lex, class and plan compute: no program and no memory in sight. Conditions: none. -/
import Derived.Lib.Bytealg
import Derived.Lib.Strings
import Derived.Lib.IndexMore
import Derived.Lib.SlTrimSet
import Derived.Lib.Join
namespace Sg
open Go

abbrev B := List UInt8

def letter (c : UInt8) : Bool := (65 ≤ c && c ≤ 90) || (97 ≤ c && c ≤ 122) || c == 95
def digit (c : UInt8) : Bool := 48 ≤ c && c ≤ 57
def runL (p : UInt8 → Bool) (s : B) : Nat := (s.takeWhile p).length
def up (c : UInt8) : UInt8 := if 97 ≤ c && c ≤ 122 then c - 32 else c

/-- behind the opening quote: what stands between, and how many bytes with the closing one. -/
def quotedL (q : UInt8) : B → Option (B × Nat)
  | [] => none
  | [c] => if c = q then some ([], 1) else none
  | c :: d :: r =>
    if c ≠ q then (quotedL q (d :: r)).map fun x => (c :: x.1, x.2 + 1)
    else if d ≠ q then some ([], 1)
    else (quotedL q r).map fun x => (q :: x.1, x.2 + 2)

def blanksL : B := [32, 9, 10, 13]
def hintsL : B := [47, 42, 43]
def opensL : B := [47, 42]
def closesL : B := [42, 47]

def remarkL (s : B) : Int :=
  if Lib.hasPrefix s hintsL then 0
  else if Lib.hasPrefix s opensL then
    let n := Lib.index (s.drop 2) closesL
    if n < 0 then n else 2 + n + 2
  else if Lib.hasPrefix s [45, 45] || Lib.hasPrefix s [35] then
    let n := Lib.indexByte s 10
    if 0 ≤ n then n else s.length
  else 0

structure Tok where
  kind : Nat
  text : B
  deriving DecidableEq

/-- the token that a text (not empty) begins with, and how many bytes it has. -/
def oneC (c : UInt8) (r : B) : Option (Tok × Nat) :=
  if Lib.hasPrefix (c :: r) hintsL then
    if (Lib.cut ((c :: r).drop 3) closesL).2.2 then some (⟨5, Lib.trimS (Lib.cut ((c :: r).drop 3) closesL).1 blanksL⟩, 3 + (Lib.cut ((c :: r).drop 3) closesL).1.length + 2) else none
  else if letter c then
    some (⟨1, ((c :: r).take (runL (fun c => letter c || digit c) (c :: r))).map up⟩, runL (fun c => letter c || digit c) (c :: r))
  else if digit c then
    some (⟨4, (c :: r).take (runL digit (c :: r))⟩, runL digit (c :: r))
  else if c = 39 ∨ c = 34 ∨ c = 96 then (quotedL c r).map fun x => (⟨if c = 39 then 3 else 2, x.1⟩, x.2 + 1)
  else if 33 ≤ c.toNat ∧ c.toNat ≤ 126 then some (⟨6, [c]⟩, 1)
  else none

def oneL : B → Option (Tok × Nat)
  | [] => none
  | c :: r => oneC c r

/-- the tokens of a text, with rounds. -/
def lexN : Nat → B → Option (List Tok)
  | _, [] => some []
  | 0, _ :: _ => none
  | k + 1, c :: r =>
    if Lib.indexByte blanksL c ≥ 0 then lexN k r
    else
      let n := remarkL (c :: r)
      if n < 0 then none
      else if n = 0 then
        match oneL (c :: r) with
        | none => none
        | some (t, m) => (lexN k ((c :: r).drop m)).map (t :: ·)
      else lexN k ((c :: r).drop n.toNat)

def lexL (s : B) : Option (List Tok) := if s.length > 200 then none else lexN s.length s
def bytesOf (s : String) : B := s.toUTF8.toList

end Sg
