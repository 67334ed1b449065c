/- What the small functions answer. -/
import Derived.Test.YtneeobmefioenaaGeAwake
namespace Go.Ge
open Go Go.RowKit Go.Proofs

theorem ok_s {spec : Nat → List V → Option V} (hs : SpecOk Try.prog spec) (N : Nat) {f : Nat} {F : IF} (hF : prog f = some F) {vs : List V} {v : V} (h : evF (HSp spec N) F vs (isV v) = some ()) : CallOk Try.prog f vs (fun u => u = v) ∧ pureV 5 v = true := by
  obtain ⟨fn, hfn, hok⟩ := prog_fn hF
  exact ok_of mixed_ok hs hfn hok h
abbrev wr (n : Int) : Int := IntKind.i64.wrap n
abbrev ofn (m : Nat) : Int := Int.ofNat (m + 1)
def withinB (n lo hi : Int) : Bool := bif decide (lo ≤ n) then decide (n ≤ hi) else false
def floorW (n : Int) (m : Nat) : Int := bif decide (n.tmod (ofn m) < 0) then wr (wr (n.tdiv (ofn m)) - 1) else wr (n.tdiv (ofn m))
def modW (n : Int) (m : Nat) : Int := bif decide (n.tmod (ofn m) < 0) then wr (n.tmod (ofn m) + ofn m) else n.tmod (ofn m)
def liesB (r0 r1 a0 a1 b0 b1 : Int) : Bool := bif decide (mnI a0 b0 ≤ r0) then (bif decide (r0 ≤ r1) then decide (r1 ≤ mxI a1 b1) else false) else false
section
variable {R : Type} (H : Hk R) (k : V → Option R)
theorem ev43 (c : Bool) (e : Int) : evF H f43 [.b c, .i .i64 e] k = bif c then k (.i .i64 0) else k (.i .i64 e) := by kernel_rfl
theorem ev58 (n lo hi : Int) : evF H f58 [.i .i64 n, .i .i64 lo, .i .i64 hi] k = bif decide (lo ≤ n) then k (.b (decide (n ≤ hi))) else k (.b false) := by kernel_rfl
theorem ev26 (n lo hi : Int) : evF H f26 [.i .i64 n, .i .i64 lo, .i .i64 hi] k = bif decide (lo ≤ n) then k (.b (decide (n ≤ hi))) else k (.b false) := by kernel_rfl
theorem ev44 (a b c d : Int) : evF H f44 [.agg [.i .i64 a, .i .i64 b], .agg [.i .i64 c, .i .i64 d]] k = k (.agg [.i .i64 (wr (a - d)), .i .i64 (wr (b - c))]) := by kernel_rfl
theorem ev72 (n : Int) (m : Nat) : evF H f72 [.i .i64 n, .i .i64 (ofn m)] k = bif decide (n.tmod (ofn m) < 0) then k (.i .i64 (wr (wr (n.tdiv (ofn m)) - 1))) else k (.i .i64 (wr (n.tdiv (ofn m)))) := by kernel_rfl
theorem ev8 (n : Int) (m : Nat) : evF H f8 [.i .i64 n, .i .i64 (ofn m)] k = bif decide (n.tmod (ofn m) < 0) then k (.i .i64 (wr (n.tmod (ofn m) + ofn m))) else k (.i .i64 (n.tmod (ofn m))) := by kernel_rfl
theorem ev87 (h a b c d e f g : Int) (bo : Bool) : evF H f87 [.agg [.i .i64 h, .i .i64 a, .i .i64 b, .i .i64 c, .i .i64 d, .i .i64 e, .i .i64 f], .pc [.i .i64 g] 0 bo] k = k (.b (decide (h ≥ g))) := by kernel_rfl
theorem ev82 (a b c d e f : Int) : evF H f82 [.agg [.i .i64 a, .i .i64 b, .i .i64 c, .i .i64 d, .i .i64 e, .i .i64 f]] k = k (.agg [.i .i64 a, .i .i64 b, .i .i64 c, .i .i64 d, .i .i64 e, .i .i64 f]) := by kernel_rfl
theorem ev11 (r0 r1 a0 a1 b0 b1 : Int) : evF H f11 [.agg [.i .i64 r0, .i .i64 r1], .agg [.i .i64 a0, .i .i64 a1], .agg [.i .i64 b0, .i .i64 b1]] k =
    bif decide (mnI a0 b0 ≤ r0) then (bif decide (r0 ≤ r1) then k (.b (decide (r1 ≤ mxI a1 b1))) else k (.b false)) else k (.b false) := by kernel_rfl
end
def spec1 (f : Nat) (vs : List V) : Option V :=
  match f, vs with
  | 43, [.b c, .i .i64 e] => some (.i .i64 (bif c then 0 else e))
  | 58, [.i .i64 n, .i .i64 lo, .i .i64 hi] => some (.b (withinB n lo hi))
  | 26, [.i .i64 n, .i .i64 lo, .i .i64 hi] => some (.b (withinB n lo hi))
  | 44, [.agg [.i .i64 a, .i .i64 b], .agg [.i .i64 c, .i .i64 d]] => some (.agg [.i .i64 (wr (a - d)), .i .i64 (wr (b - c))])
  | 72, [.i .i64 n, .i .i64 (.ofNat (m + 1))] => some (.i .i64 (floorW n m))
  | 8, [.i .i64 n, .i .i64 (.ofNat (m + 1))] => some (.i .i64 (modW n m))
  | 87, [.agg [.i .i64 h, .i .i64 _, .i .i64 _, .i .i64 _, .i .i64 _, .i .i64 _, .i .i64 _], .pc [.i .i64 g] 0 _] => some (.b (decide (h ≥ g)))
  | 82, [.agg [.i .i64 a, .i .i64 b, .i .i64 c, .i .i64 d, .i .i64 e, .i .i64 f]] => some (.agg [.i .i64 a, .i .i64 b, .i .i64 c, .i .i64 d, .i .i64 e, .i .i64 f])
  | 11, [.agg [.i .i64 r0, .i .i64 r1], .agg [.i .i64 a0, .i .i64 a1], .agg [.i .i64 b0, .i .i64 b1]] => some (.b (liesB r0 r1 a0 a1 b0 b1))
  | _, _ => none
theorem spec1_ok : SpecOk Try.prog spec1 := by
  intro f vs v h
  unfold spec1 at h
  split at h
  · rename_i c e
    simp only [Option.some.injEq] at h; subst h
    refine ok_s (spec0_ok _) 10 (F := f43) (by kernel_rfl) ?_
    rw [ev43]; cases c <;> exact isV_self _
  · rename_i n lo hi
    simp only [Option.some.injEq] at h; subst h
    refine ok_s (spec0_ok _) 10 (F := f58) (by kernel_rfl) ?_
    rw [ev58]; unfold withinB; cases decide (lo ≤ n) <;> exact isV_self _
  · rename_i n lo hi
    simp only [Option.some.injEq] at h; subst h
    refine ok_s (spec0_ok _) 10 (F := f26) (by kernel_rfl) ?_
    rw [ev26]; unfold withinB; cases decide (lo ≤ n) <;> exact isV_self _
  · simp only [Option.some.injEq] at h; subst h
    exact ok_s (spec0_ok _) 10 (F := f44) (by kernel_rfl) (by rw [ev44]; exact isV_self _)
  · rename_i n m
    simp only [Option.some.injEq] at h; subst h
    refine ok_s (spec0_ok _) 10 (F := f72) (by kernel_rfl) ?_
    rw [ev72]; unfold floorW; cases decide (n.tmod (ofn m) < 0) <;> exact isV_self _
  · rename_i n m
    simp only [Option.some.injEq] at h; subst h
    refine ok_s (spec0_ok _) 10 (F := f8) (by kernel_rfl) ?_
    rw [ev8]; unfold modW; cases decide (n.tmod (ofn m) < 0) <;> exact isV_self _
  · simp only [Option.some.injEq] at h; subst h
    exact ok_s (spec0_ok _) 10 (F := f87) (by kernel_rfl) (by rw [ev87]; exact isV_self _)
  · simp only [Option.some.injEq] at h; subst h
    exact ok_s (spec0_ok _) 10 (F := f82) (by kernel_rfl) (by rw [ev82]; exact isV_self _)
  · rename_i r0 r1 a0 a1 b0 b1
    simp only [Option.some.injEq] at h; subst h
    refine ok_s (spec0_ok _) 10 (F := f11) (by kernel_rfl) ?_
    rw [ev11]; unfold liesB
    cases decide (mnI a0 b0 ≤ r0) with
    | false => exact isV_self _
    | true => cases decide (r0 ≤ r1) <;> exact isV_self _
  · simp at h

/-! ### The first error of a list -/
def firstE : List Int → Int
  | [] => 0
  | x :: r => bif x != 0 then x else firstE r
theorem step40 {R : Type} (H : Hk R) (l : List Int) (b e : Bool) (len : Int) (m n : Nat) (K : Ex → Env → Mem → Option R) :
    loopK (fun env mem k => evC H Y0 c40_b0 0 env mem k) (m + 1) [(5, .sl I64 l b e), (6, .i .i64 len), (7, .i .i64 (Int.ofNat n))] [] K =
    bif decide (Int.ofNat n < len) then (match l[n]? with
      | some x => bif x != 0 then K .ret [(2, .i .i64 x)] [] else loopK (fun env mem k => evC H Y0 c40_b0 0 env mem k) m [(5, .sl I64 l b e), (6, .i .i64 len), (7, .i .i64 (wr (Int.ofNat n + 1)))] [] K
      | none => none) else K (.exit 0) [(5, .sl I64 l b e), (6, .i .i64 len), (7, .i .i64 (Int.ofNat n)), (8, .b (decide (Int.ofNat n < len)))] [] := by kernel_rfl
theorem head40 {R : Type} (H : Hk R) (l : List Int) (b e : Bool) (k : V → Option R) : evF H f40 [.sl I64 l b e] k =
    loopK (fun env mem k => evC H Y0 c40_b0 0 env mem k) H.N [(5, .sl I64 l b e), (6, .i .i64 l.length), (7, .i .i64 (Int.ofNat 0))] [] (c40_k0 H Y0 0 (kF f40 k)) := by kernel_rfl
theorem out40 {R : Type} (H : Hk R) (x : Int) (k : V → Option R) : c40_k0 H Y0 0 (kF f40 k) .ret [(2, .i .i64 x)] [] = k (.i .i64 x) := by kernel_rfl
theorem end40 {R : Type} (H : Hk R) (u v w x : V) (k : V → Option R) : c40_k0 H Y0 0 (kF f40 k) (.exit 0) [(5, u), (6, v), (7, w), (8, x)] [] = k (.i .i64 0) := by kernel_rfl
theorem loop40 {R : Type} (H : Hk R) (l : List Int) (b e : Bool) (hl : l.length < 1000000) (k : V → Option R) : ∀ (r p : List Int) (m : Nat), l = p ++ r → r.length < m →
    loopK (fun env mem k => evC H Y0 c40_b0 0 env mem k) m [(5, .sl I64 l b e), (6, .i .i64 l.length), (7, .i .i64 (Int.ofNat p.length))] [] (c40_k0 H Y0 0 (kF f40 k)) = k (.i .i64 (firstE r))
  | r, p, 0, _, hm => by omega
  | [], p, m + 1, hp, hm => by
    rw [step40]
    have : decide (Int.ofNat p.length < (l.length : Int)) = false := by subst hp; simp
    rw [this, cond_false, end40]
    rfl
  | x :: r, p, m + 1, hp, hm => by
    rw [step40]
    have h1 : decide (Int.ofNat p.length < (l.length : Int)) = true := by subst hp; simp; omega
    have h2 : l[p.length]? = some x := by subst hp; simp
    rw [h1, cond_true, h2]
    simp only [firstE]
    cases hx : (x != 0) with
    | true => simp only [cond_true]; exact out40 H x k
    | false =>
      simp only [cond_false]
      have h3 : wr (Int.ofNat p.length + 1) = Int.ofNat (p ++ [x]).length := by
        have hl2 : p.length < l.length := by subst hp; simp
        rw [show Int.ofNat p.length = (p.length : Int) from rfl, wr, wrap_id (by omega) (by omega)]
        simp
      rw [h3]
      exact loop40 H l b e hl k r (p ++ [x]) m (by simp [hp]) (by simp at hm; omega)
theorem ev40 {R : Type} (H : Hk R) (l : List Int) (b e : Bool) (hl : l.length < 1000000) (hN : l.length < H.N) (k : V → Option R) : evF H f40 [.sl I64 l b e] k = k (.i .i64 (firstE l)) := by
  rw [head40]
  exact loop40 H l b e hl k l [] H.N rfl hN
end Go.Ge
