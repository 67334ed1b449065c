/- The hooks for calls: the program's own functions by the evaluator, some of the library's by their contracts. -/
import Derived.Test.YtneeobmefioenaaGeEv
import Derived.Test.YtneeobmefioenaaGeIrB
namespace Go.Ge
open Go

/-- Winds: X, Y, Z, Den. -/
abbrev I64 : Ty := .int .i64
abbrev windT : Ty := .prod I64 (.prod I64 (.prod I64 I64))
/-- All orders of a list. -/
def ins1 {α : Type} (x : α) : List α → List (List α)
  | [] => [[x]]
  | y :: r => (x :: y :: r) :: (ins1 x r).map (y :: ·)
def perms {α : Type} : List α → List (List α)
  | [] => [[]]
  | x :: r => (perms r).flatMap (ins1 x)
/-- a / da is before b / db. -/
def fracLt (a da b db : Int) : Bool := decide (a * db < b * da)
def fracEq (a da b db : Int) : Bool := decide (a * db = b * da)
def windLt (x y : T windT) : Bool :=
  fracLt x.1 x.2.2.2 y.1 y.2.2.2 || fracEq x.1 x.2.2.2 y.1 y.2.2.2 && (fracLt x.2.1 x.2.2.2 y.2.1 y.2.2.2 || fracEq x.2.1 x.2.2.2 y.2.1 y.2.2.2 && fracLt x.2.2.1 x.2.2.2 y.2.2.1 y.2.2.2)
def windOk (x : T windT) : Bool :=
  decide (0 < x.2.2.2) && decide (x.2.2.2 ≤ 1000000000) && decide (-1000000000 ≤ x.1) && decide (x.1 ≤ 1000000000) && decide (-1000000000 ≤ x.2.1) && decide (x.2.1 ≤ 1000000000) && decide (-1000000000 ≤ x.2.2.1) && decide (x.2.2.1 ≤ 1000000000)
def sorted {α : Type} (lt : α → α → Bool) : List α → Bool
  | [] => true
  | x :: r => (match r with | [] => true | y :: _ => !lt y x) && sorted lt r
section
variable {R : Type} (eq : R → R → Bool)
def joinR : List (Option R) → Option R
  | [] => none
  | [x] => x
  | x :: r => match joinR r with
    | some y => match x with
      | some x => bif eq x y then some x else none
      | none => none
    | none => none
/-- The library's functions that are not walked here. -/
structure Lib where
  clone : Nat
  growF : Nat
  growT : Ty
  sort : Nat
  cmp : Nat
def mkH (prog : Nat → Option IF) (L : Lib) : Nat → Hk R
  | 0 => { C := fun _ _ _ => none, S := fun _ _ _ _ _ => none, J := fun _ => none, N := 0 }
  | m + 1 =>
    { C := fun f vs k => bif Nat.beq f L.clone then (match vs with
          | [.sl t l _ _] => bif decide (t = I64) && Nat.ble l.length 1000000 then k (.sl t l false false) else none
          | _ => none)
        else match prog f with
          | some F => evF (mkH prog L m) F vs k
          | none => none
      S := fun f t l g k => bif Nat.beq f L.sort && Nat.beq g L.cmp then (if h : t = windT then
          bif (castL h l).all windOk && Nat.ble l.length 1000 then joinR eq (((perms (castL h l)).filter (sorted windLt)).map fun l => k (castL h.symm l)) else none
        else none) else none
      J := joinR eq
      N := 400
      G := fun f t n => Nat.beq f L.growF && decide (t = L.growT) && Nat.ble n 1000000
      Z := fun f => Nat.beq f L.sort
      M := fun Y f vs d mem k => match prog f with
        | some F => evM (mkH prog L m) Y F vs d mem k
        | none => none }
end
end Go.Ge
