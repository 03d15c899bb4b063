/- Words for abstract values; small laws for walks. -/
import Derived.Test.YtgdeoaiakdkhcaaAmZd
namespace Go.Proofs.Ytgdeoaiakdkhcaa.Am
set_option linter.unusedVariables false
open Go Go.RowKit

def i64 (x : Int) : Dv := .s (.int .i64 x)
def u64 (x : Int) : Dv := .s (.int .u64 x)
def u8 (x : Int) : Dv := .s (.int .u8 x)
def u16 (x : Int) : Dv := .s (.int .u16 x)
def bo (x : Bool) : Dv := .s (.bool x)
noncomputable def code (fn : Func) : Code := fn.body.getD .skip
def firstOf : Code → Code
  | .seq x _ => x
  | c => c
def restOf : Code → Code
  | .seq _ y => y
  | c => c
def dropSeq : Nat → Code → Code
  | n + 1, .seq _ y => dropSeq n y
  | _, c => c
def inBlock : Code → Code
  | .block _ c => c
  | c => c
def inLoop : Code → Code
  | .loop c => c
  | c => c
def assignOf : Code → Code
  | .rangeFunc _ _ a _ => a
  | c => c
def bodyOf : Code → Code
  | .rangeFunc _ _ _ b => b
  | c => c

/-- by which one tells pieces of code apart: the first region's number, and one -/
def cidO : Code → Nat
  | .region id _ _ => id + 1
  | .seq x y => match cidO x with
    | 0 => cidO y
    | n => n
  | .block _ c => cidO c
  | .loop c => cidO c
  | .scope c => cidO c
  | .cond _ x _ => cidO x
  | .rangeFunc _ _ a b => match cidO a with
    | 0 => cidO b
    | n => n
  | _ => 0

abbrev WLT (β : Type) := Code → List AV → List Blk → β → (Exit → List AV → List Blk → β → Prop) → Prop

/-- a part of some code -/
def sub : List Nat → Code → Code
  | [], c => c
  | n :: p, c => match n, c with
    | 0, .seq x _ => sub p x
    | 1, .seq _ y => sub p y
    | 2, .block _ c => sub p c
    | 3, .loop c => sub p c
    | 4, .cond _ x _ => sub p x
    | 5, .cond _ _ y => sub p y
    | 6, .rangeFunc _ _ a _ => sub p a
    | 7, .rangeFunc _ _ _ b => sub p b
    | 8, .scope c => sub p c
    | _, _ => .skip

/-- an element -/
def nth (p : List Int) (i : Nat) : Int := p.getD i 0
/-- bytes, sixteen of them -/
def cells16 (p : List Int) : List AV := (List.range 16).map fun i => .d (u8 (nth p i))

end Go.Proofs.Ytgdeoaiakdkhcaa.Am
