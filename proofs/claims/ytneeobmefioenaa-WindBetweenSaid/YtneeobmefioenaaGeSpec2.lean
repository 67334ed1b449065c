/- What the next functions answer. -/
import Derived.Test.YtneeobmefioenaaGeSpec1
namespace Go.Ge
open Go Go.RowKit Go.Proofs

/-- What follows on a look-up. -/
def optK {α β : Type} (o : Option α) (f : α → Option β) : Option β := match o with | some x => f x | none => none

def errIf (c : Bool) (e : Int) : Int := bif c then 0 else e
def sizedB (n most : Int) : Bool := withinB n (wr (0 - most)) most
def ceilW (n : Int) (m : Nat) : Int := wr (0 - floorW (wr (0 - n)) m)
def heightE (n : Int) : Int := errIf (withinB n 0 20000) 2
def containsB (a0 a1 b0 b1 r0 r1 : Int) : Bool :=
  bif withinB a0 (-1000000) 1000000 then (bif withinB a1 (-1000000) 1000000 then (bif withinB b0 (-1000000) 1000000 then (bif withinB b1 (-1000000) 1000000 then
    (bif decide (wr (a0 + b0) ≤ r0) then decide (r1 ≤ wr (a1 + b1)) else false) else false) else false) else false) else false
abbrev rngT : Ty := .prod I64 I64
abbrev boxT : Ty := .prod rngT (.prod rngT rngT)
abbrev layT : Ty := .prod I64 boxT
section
variable {R : Type} (k : V → Option R)
theorem ev59 (n m : Int) : evF (HSp spec1 10) f59 [.i .i64 n, .i .i64 m] k = k (.b (sizedB n m)) := by kernel_rfl
theorem ev41 (n : Int) : evF (HSp spec1 10) f41 [.i .i64 n] k = k (.i .i64 (heightE n)) := by kernel_rfl
theorem ev81 (n : Int) : evF (HSp spec1 10) f81 [.i .i64 n] k = bif (!withinB n 0 20000) then k (.i .i64 2) else k (.i .i64 0) := by kernel_rfl
theorem ev73 (n : Int) (m : Nat) : evF (HSp spec1 10) f73 [.i .i64 n, .i .i64 (ofn m)] k = k (.i .i64 (ceilW n m)) := by kernel_rfl
theorem ev13 (a0 a1 b0 b1 r0 r1 : Int) : evF (HSp spec1 10) f13 [.agg [.i .i64 a0, .i .i64 a1], .agg [.i .i64 b0, .i .i64 b1], .agg [.i .i64 r0, .i .i64 r1]] k =
    bif (!(!withinB a0 (-1000000) 1000000)) then (bif (!(!withinB a1 (-1000000) 1000000)) then (bif (!(!withinB b0 (-1000000) 1000000)) then (bif (!withinB b1 (-1000000) 1000000) then k (.b false) else
      (bif decide (wr (a0 + b0) ≤ r0) then k (.b (decide (r1 ≤ wr (a1 + b1)))) else k (.b false))) else k (.b false)) else k (.b false)) else k (.b false) := by kernel_rfl
theorem ev10c (H : Hk R) (x : T layT) (l : List (T layT)) (b e : Bool) : evF H f10 [.sl layT (x :: l) b e] k = bif Nat.ble (0 + (x :: l).length) 628292358729 && !(b && !true) then k (.sl layT (x :: l) false false) else none := by
  cases b <;> kernel_rfl
end
def spec2 (f : Nat) (vs : List V) : Option V :=
  match f, vs with
  | 40, [.sl (.int .i64) l _ _] => bif decide (l.length < 90) then some (.i .i64 (firstE l)) else none
  | 59, [.i .i64 n, .i .i64 m] => some (.b (sizedB n m))
  | 41, [.i .i64 n] => some (.i .i64 (heightE n))
  | 81, [.i .i64 n] => some (.i .i64 (heightE n))
  | 73, [.i .i64 n, .i .i64 (.ofNat (m + 1))] => some (.i .i64 (ceilW n m))
  | 13, [.agg [.i .i64 a0, .i .i64 a1], .agg [.i .i64 b0, .i .i64 b1], .agg [.i .i64 r0, .i .i64 r1]] => some (.b (containsB a0 a1 b0 b1 r0 r1))
  | f, vs => spec1 f vs
theorem spec2_ok : SpecOk Try.prog spec2 := by
  intro f vs v h
  unfold spec2 at h
  split at h
  · rename_i l b e
    simp only [cond_eq_ite, decide_eq_true_eq] at h
    split at h
    · rename_i hl
      simp only [Option.some.injEq] at h; subst h
      exact ok_s (spec0_ok _) 100 (F := f40) (by kernel_rfl) (by rw [ev40 _ _ _ _ (by omega) (by show l.length < 100; omega)]; exact isV_self _)
    · simp at h
  · simp only [Option.some.injEq] at h; subst h
    exact ok_s spec1_ok 10 (F := f59) (by kernel_rfl) (by rw [ev59]; exact isV_self _)
  · simp only [Option.some.injEq] at h; subst h
    exact ok_s spec1_ok 10 (F := f41) (by kernel_rfl) (by rw [ev41]; exact isV_self _)
  · rename_i n
    simp only [Option.some.injEq] at h; subst h
    refine ok_s spec1_ok 10 (F := f81) (by kernel_rfl) ?_
    rw [ev81]; unfold heightE errIf; cases withinB n 0 20000 <;> exact isV_self _
  · simp only [Option.some.injEq] at h; subst h
    exact ok_s spec1_ok 10 (F := f73) (by kernel_rfl) (by rw [show ∀ m, Int.ofNat (m + 1) = ofn m from fun _ => rfl, ev73]; exact isV_self _)
  · rename_i a0 a1 b0 b1 r0 r1
    simp only [Option.some.injEq] at h; subst h
    refine ok_s spec1_ok 10 (F := f13) (by kernel_rfl) ?_
    rw [ev13]; unfold containsB
    cases withinB a0 (-1000000) 1000000 <;> cases withinB a1 (-1000000) 1000000 <;> cases withinB b0 (-1000000) 1000000 <;> cases withinB b1 (-1000000) 1000000 <;> cases decide (wr (a0 + b0) ≤ r0) <;> exact isV_self _
  · exact spec1_ok _ _ _ h
def rangeE (a b most : Int) : Int := firstE [errIf (bif sizedB a most then sizedB b most else false) 2, errIf (decide (a ≤ b)) 9]
section
variable {R : Type} (k : V → Option R)
theorem ev85 (a b m : Int) : evF (HSp spec2 10) f85 [.agg [.i .i64 a, .i .i64 b], .i .i64 m] k =
    bif sizedB a m then k (.i .i64 (firstE [errIf (sizedB b m) 2, errIf (decide (a ≤ b)) 9])) else k (.i .i64 (firstE [errIf false 2, errIf (decide (a ≤ b)) 9])) := by kernel_rfl
theorem ev88 (a0 a1 b0 b1 t : Int) (m : Nat) : evF (HSp spec2 10) f88 [.agg [.i .i64 a0, .i .i64 a1], .agg [.i .i64 b0, .i .i64 b1], .i .i64 t, .i .i64 (ofn m)] k =
    k (.agg [.i .i64 (wr (a0 + floorW (wr (wr (b0 - a0) * t)) m)), .i .i64 (wr (a1 + ceilW (wr (wr (b1 - a1) * t)) m))]) := by kernel_rfl
end
def btwLo (a b t d : Int) : Int := wr (a + floorW (wr (wr (b - a) * t)) (d.toNat - 1))
def btwHi (a b t d : Int) : Int := wr (a + ceilW (wr (wr (b - a) * t)) (d.toNat - 1))
def spec3 (f : Nat) (vs : List V) : Option V :=
  match f, vs with
  | 85, [.agg [.i .i64 a, .i .i64 b], .i .i64 m] => some (.i .i64 (rangeE a b m))
  | f, vs => spec2 f vs
theorem spec3_ok : SpecOk Try.prog spec3 := by
  intro f vs v h
  unfold spec3 at h
  split at h
  · rename_i a b m
    simp only [Option.some.injEq] at h; subst h
    refine ok_s spec2_ok 10 (F := f85) (by kernel_rfl) ?_
    rw [ev85]; unfold rangeE; cases sizedB a m <;> exact isV_self _
  · exact spec2_ok _ _ _ h

/-! ### Tables of answers that hold under a condition -/
def bOf (s : Nat → List V → Option (Bool × V)) (f : Nat) (vs : List V) : Option V :=
  match s f vs with
  | some (c, v) => bif c then some v else none
  | none => none
def liftS (s : Nat → List V → Option V) (f : Nat) (vs : List V) : Option (Bool × V) :=
  match s f vs with
  | some v => some (true, v)
  | none => none
def HSb {R : Type} (s : Nat → List V → Option (Bool × V)) (N : Nat) : Hk R :=
  { C := fun f vs k => match s f vs with
      | some (c, v) => bif c then k v else none
      | none => none
    S := fun _ _ _ _ _ => none, J := fun _ => none, N := N }
theorem HSb_eq {R : Type} (s : Nat → List V → Option (Bool × V)) (N : Nat) : (HSb s N : Hk R) = HSp (bOf s) N := by
  have : (fun (f : Nat) (vs : List V) (k : V → Option R) => match s f vs with
      | some (c, v) => bif c then k v else none
      | none => none) = fun f vs k => match bOf s f vs with
      | some v => k v
      | none => none := by
    funext f vs k
    unfold bOf
    cases s f vs with
    | none => rfl
    | some p => obtain ⟨c, v⟩ := p; cases c <;> rfl
  unfold HSb HSp
  rw [this]
  rfl
theorem ok_b {s : Nat → List V → Option (Bool × V)} (hs : SpecOk Try.prog (bOf s)) (N : Nat) {f : Nat} {F : IF} (hF : prog f = some F) {vs : List V} {v : V} (h : evF (HSb s N) F vs (isV v) = some ()) : CallOk Try.prog f vs (fun u => u = v) ∧ pureV 5 v = true :=
  ok_s hs N hF (by rw [← HSb_eq]; exact h)
theorem bOf_lift (s : Nat → List V → Option V) (f : Nat) (vs : List V) : bOf (liftS s) f vs = s f vs := by
  unfold bOf liftS
  cases s f vs <;> rfl
def spec4 (f : Nat) (vs : List V) : Option (Bool × V) :=
  match f, vs with
  | 88, [.agg [.i .i64 a0, .i .i64 a1], .agg [.i .i64 b0, .i .i64 b1], .i .i64 t, .i .i64 d] => some (decide (0 < d), .agg [.i .i64 (btwLo a0 b0 t d), .i .i64 (btwHi a1 b1 t d)])
  | f, vs => liftS spec3 f vs
theorem spec4_ok : SpecOk Try.prog (bOf spec4) := by
  intro f vs v h
  unfold bOf at h
  split at h
  · rename_i c u e
    unfold spec4 at e
    split at e
    · rename_i a0 a1 b0 b1 t d
      simp only [Option.some.injEq, Prod.mk.injEq] at e
      obtain ⟨rfl, rfl⟩ := e
      simp only [cond_eq_ite, decide_eq_true_eq] at h
      split at h
      · rename_i hd
        simp only [Option.some.injEq] at h; subst h
        obtain ⟨m, rfl⟩ : ∃ m, d = ofn m := ⟨d.toNat - 1, by show d = ((d.toNat - 1 + 1 : Nat) : Int); omega⟩
        exact ok_s spec2_ok 10 (F := f88) (by kernel_rfl) (by rw [ev88]; exact isV_self _)
      · simp at h
    · refine spec3_ok _ _ _ ?_
      rw [← bOf_lift spec3]
      unfold bOf
      rw [e]
      exact h
  · simp at h
end Go.Ge
