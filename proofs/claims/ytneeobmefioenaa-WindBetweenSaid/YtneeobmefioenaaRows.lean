/-
  No cell of these rows narrows 'for every input' (looked for: loops, veiled, ifaces, maps, wideKeys, modest, calm, conditions, laid).
  DERIVED. THE GIVEN ROWS OF THIS SEAT. 3 by the template 'for every input the law returns true; each argument reads behind the call as it read before'; 0 by the template 'total and deterministic' (their statements: YtneeobmefioenaaTotals.lean).
  GIVEN WITH THE SEED: the statements are not yours to turn. If you find one false, say at which input.
  Laid BY PROGRAM, IN A SANDBOX (cutbox-rows.mjs): the forced cells as the released guide's own fill.sh prints them over the translation 57050a547900d39e… (all of the seat's roots in one cut). By AI agents, Wed Nov 11 2026. No macro, syntax, notation, axiom, sorry.
-/
import Derived.Test.YtneeobmefioenaaChecked
import GoSem.Claim
import GoSem.ClaimJoined
import GoSem.ClaimMapViews
import Derived.JoinedTies
import Derived.KernelRfl
namespace Go.Proofs.Ytneeobmefioenaa
/- THE CELL 'sum', in the pinned program and in every row, IS THE sha256 OF THE DUMP (.gsa) THAT YtneeobmefioenaaProg.lean LOADS. Nothing in Lean hashes anything: it is a label: what it is worth is what the hold of that sum in a sandbox is worth. -/
noncomputable def Try.pinned : Pinned := { name := "ytneeobmefioenaa", sum := "57050a547900d39e23e7a7c8b2f2220380828701c363f132f2a550d484d1c148", checked := Try.checked }
namespace Rows
def none {H : Type} : Left H := { results := [], args := [] }

/-- 'glidepathlaw04.WindBetween': WHATEVER THE INPUT: true; the input reads as it did. -/
def windBetweenSpec : ChangeSpec := { name := "windBetween", fn := fun _ => fun
  | [d1, d2] => { results := [.lit (.bool true)], args := [d1, d2] }
  | _ => none }
def windBetweenRow : OpenClaim := { program := "ytneeobmefioenaa", sum := "57050a547900d39e23e7a7c8b2f2220380828701c363f132f2a550d484d1c148", func := "glidepath/glidepathlaw04.WindBetween", spec := "windBetween", unfollowed := true, recurses := true, plainKeys := false, apart := false }
def WindBetweenSaid : Prop := windBetweenRow.holds Try.pinned (OpenSpec.ofChange windBetweenSpec)

/-- ITS FALSE NEIGHBOUR: 'it returns false'. Refute it at one input. -/
def windBetweenWrong : ChangeSpec := { name := "windBetween", fn := fun _ => fun
  | [d1, d2] => { results := [.lit (.bool false)], args := [d1, d2] }
  | _ => none }
def WindBetweenWrongFalsely : Prop := windBetweenRow.holds Try.pinned (OpenSpec.ofChange windBetweenWrong)

/-- 'glidepathlaw04.WindEither': WHATEVER THE INPUT: true; the input reads as it did. -/
def windEitherSpec : ChangeSpec := { name := "windEither", fn := fun _ => fun
  | [d1, d2] => { results := [.lit (.bool true)], args := [d1, d2] }
  | _ => none }
def windEitherRow : OpenClaim := { program := "ytneeobmefioenaa", sum := "57050a547900d39e23e7a7c8b2f2220380828701c363f132f2a550d484d1c148", func := "glidepath/glidepathlaw04.WindEither", spec := "windEither", unfollowed := true, recurses := true, plainKeys := false, apart := false }
def WindEitherSaid : Prop := windEitherRow.holds Try.pinned (OpenSpec.ofChange windEitherSpec)

/-- ITS FALSE NEIGHBOUR: 'it returns false'. Refute it at one input. -/
def windEitherWrong : ChangeSpec := { name := "windEither", fn := fun _ => fun
  | [d1, d2] => { results := [.lit (.bool false)], args := [d1, d2] }
  | _ => none }
def WindEitherWrongFalsely : Prop := windEitherRow.holds Try.pinned (OpenSpec.ofChange windEitherWrong)

/-- 'glidepathlaw04.WindEquations': WHATEVER THE INPUT: true; the input reads as it did. -/
def windEquationsSpec : ChangeSpec := { name := "windEquations", fn := fun _ => fun
  | [d1, d2, d3] => { results := [.lit (.bool true)], args := [d1, d2, d3] }
  | _ => none }
def windEquationsRow : OpenClaim := { program := "ytneeobmefioenaa", sum := "57050a547900d39e23e7a7c8b2f2220380828701c363f132f2a550d484d1c148", func := "glidepath/glidepathlaw04.WindEquations", spec := "windEquations", unfollowed := true, recurses := true, plainKeys := false, apart := false }
def WindEquationsSaid : Prop := windEquationsRow.holds Try.pinned (OpenSpec.ofChange windEquationsSpec)

/-- ITS FALSE NEIGHBOUR: 'it returns false'. Refute it at one input. -/
def windEquationsWrong : ChangeSpec := { name := "windEquations", fn := fun _ => fun
  | [d1, d2, d3] => { results := [.lit (.bool false)], args := [d1, d2, d3] }
  | _ => none }
def WindEquationsWrongFalsely : Prop := windEquationsRow.holds Try.pinned (OpenSpec.ofChange windEquationsWrong)

/- THE SECOND FORM. 'bulk': how many values and letters a reading holds, each counted each time it is reached (what is shared counts as often as it is met; a slice's spare places count too). A statement '..UptoSaid' is the law's where the arguments, and the package variables that the reading takes, are together of bulk at most 1048576: NARROWER than '..Said'. Prove '..Said' where nothing that the law and all that it calls make is longer than what came in: it says more and counts as full. Else prove '..UptoSaid'. A law counts once. -/
mutual
def uptoBulk {H : Type} : DataW H → Nat
  | .lit (.string bytes) => bytes.length + 1
  | .lit _ => 1
  | .nil => 1
  | .ptr d => uptoBulk d + 1
  | .slice elems spare => uptoBulkAll elems + uptoBulkAll spare + 1
  | .agg parts => uptoBulkAll parts + 1
  | .iface _ d => uptoBulk d + 1
  | .map entries => uptoBulkEntries entries + 1
  | .held _ => 1
def uptoBulkAll {H : Type} : List (DataW H) → Nat
  | [] => 0
  | d :: r => uptoBulk d + uptoBulkAll r
def uptoBulkEntries {H : Type} : List (Lit × DataW H) → Nat
  | [] => 0
  | x :: r => uptoBulkEntry x + uptoBulkEntries r
def uptoBulkEntry {H : Type} : Lit × DataW H → Nat
  | (.string bytes, d) => bytes.length + uptoBulk d + 1
  | (_, d) => uptoBulk d + 1
 end
def uptoSmall : (H : Type) → List (DataW H) → Bool := fun _ ds => decide (uptoBulkAll ds ≤ 1048576)
def OpenSpec.upto (s : _root_.Go.ChangeSpec) : _root_.Go.OpenSpec := { _root_.Go.OpenSpec.ofChange s with cond := some uptoSmall }

/-- 'glidepathlaw04.WindBetween', WHERE WHAT IT READS IS OF BULK AT MOST 1048576: true; the input reads as it did. -/
def windBetweenUptoRow : OpenClaim := { program := "ytneeobmefioenaa", sum := "57050a547900d39e23e7a7c8b2f2220380828701c363f132f2a550d484d1c148", func := "glidepath/glidepathlaw04.WindBetween", spec := "windBetween", unfollowed := true, recurses := true, plainKeys := false, apart := false, narrowed := true }
def WindBetweenUptoSaid : Prop := windBetweenUptoRow.holds Try.pinned (OpenSpec.upto windBetweenSpec)

/-- 'glidepathlaw04.WindEither', WHERE WHAT IT READS IS OF BULK AT MOST 1048576: true; the input reads as it did. -/
def windEitherUptoRow : OpenClaim := { program := "ytneeobmefioenaa", sum := "57050a547900d39e23e7a7c8b2f2220380828701c363f132f2a550d484d1c148", func := "glidepath/glidepathlaw04.WindEither", spec := "windEither", unfollowed := true, recurses := true, plainKeys := false, apart := false, narrowed := true }
def WindEitherUptoSaid : Prop := windEitherUptoRow.holds Try.pinned (OpenSpec.upto windEitherSpec)

/-- 'glidepathlaw04.WindEquations', WHERE WHAT IT READS IS OF BULK AT MOST 1048576: true; the input reads as it did. -/
def windEquationsUptoRow : OpenClaim := { program := "ytneeobmefioenaa", sum := "57050a547900d39e23e7a7c8b2f2220380828701c363f132f2a550d484d1c148", func := "glidepath/glidepathlaw04.WindEquations", spec := "windEquations", unfollowed := true, recurses := true, plainKeys := false, apart := false, narrowed := true }
def WindEquationsUptoSaid : Prop := windEquationsUptoRow.holds Try.pinned (OpenSpec.upto windEquationsSpec)

end Rows
end Go.Proofs.Ytneeobmefioenaa
