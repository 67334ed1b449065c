/- The remainder, for any positive divisor. -/
import Derived.Test.YtneeobmefioenaaGeSpec5
namespace Go.Ge
open Go Go.RowKit Go.Proofs

def modD (n d : Int) : Int := modW n (d.toNat - 1)
theorem modD_lt {n d : Int} (h : 0 < d) (hd : d < 1000000) : 0 ≤ modD n d ∧ modD n d < d := by
  unfold modD modW
  have e : ofn (d.toNat - 1) = d := by show ((d.toNat - 1 + 1 : Nat) : Int) = d; omega
  rw [e]
  have h1 := Int.tmod_lt_of_pos n h
  have h2 : -d < n.tmod d := by
    have := Int.tmod_lt_of_pos (-n) h
    rw [Int.neg_tmod] at this
    omega
  cases hc : decide (n.tmod d < 0) with
  | true =>
    have := of_decide_eq_true hc
    rw [cond_true, wr, wrap_id (by omega) (by omega)]
    omega
  | false =>
    have := of_decide_eq_false hc
    rw [cond_false]
    omega
noncomputable def spec9 (f : Nat) (vs : List V) : Option (Bool × V) :=
  match f, vs with
  | 8, [.i .i64 n, .i .i64 d] => some (decide (0 < d), .i .i64 (modD n d))
  | f, vs => spec8 f vs
theorem spec9_ok : SpecOk Try.prog (bOf spec9) := by
  intro f vs v h
  replace h := bOf_some h
  unfold spec9 at h
  split at h
  · rename_i n d
    simp only [Option.some.injEq, Prod.mk.injEq] at h
    obtain ⟨hc, rfl⟩ := h
    have hd := of_decide_eq_true hc
    obtain ⟨m, rfl⟩ : ∃ m, d = ofn m := ⟨d.toNat - 1, by show d = ((d.toNat - 1 + 1 : Nat) : Int); omega⟩
    refine ok_s (spec0_ok _) 10 (F := f8) (by kernel_rfl) ?_
    rw [ev8]
    show _ = some ()
    unfold modD modW
    rw [show (ofn m).toNat - 1 = m from rfl]
    cases decide (n.tmod (ofn m) < 0) <;> exact isV_self _
  · exact spec8_ok _ _ _ (some_bOf h)
end Go.Ge
