/- slices.SortFunc of winds, by the order of the program. -/
import Derived.Test.YtneeobmefioenaaGeClone
import Derived.Test.YtneeobmefioenaaGeHook
import Derived.KernelRfl
import Derived.Test.YtneeobmefioenaaProg
import Derived.Shelf.SlSortCmp.NoneTotal
import Derived.Ground.SlsfProg
namespace Go.Proofs
open Go.Shelf Go.RowKit
def Try.sortW_ren : Go.Shelf.Ren := ⟨fun | 6 => 103 | 15 => 114 | 14 => 113 | 28 => 123 | 29 => 124 | 20 => 115 | 21 => 116 | 22 => 117 | 23 => 118 | 24 => 119 | 25 => 120 | 26 => 121 | 27 => 122 | 46 => 125 | 47 => 126 | 48 => 127 | 49 => 128 | 50 => 129 | 57 => 130 | n => n, fun | 22 => 52 | 24 => 42 | 25 => 161 | 3 => 3 | 39 => 171 | 0 => 0 | 53 => 181 | 55 => 183 | 4 => 4 | 46 => 174 | 45 => 173 | 50 => 178 | 5 => 5 | 9 => 9 | 66 => 184 | 70 => 188 | 76 => 190 | 77 => 86 | n => n, fun | n => n⟩
theorem Try.sortW : Go.Proofs.SlLaysF0.n6 Try.prog Try.sortW_ren := {
  mixed := by kernel_rfl
  f6 := ⟨Try.f103.name, by decide, Try.func103.trans (congrArg some (by kernel_rfl))⟩
  f14 := ⟨Try.f113.name, by decide, Try.func113.trans (congrArg some (by kernel_rfl))⟩
  f15 := Try.func114.trans (congrArg some (by kernel_rfl))
  f20 := ⟨Try.f115.name, by decide, Try.func115.trans (congrArg some (by kernel_rfl))⟩
  f21 := ⟨Try.f116.name, by decide, Try.func116.trans (congrArg some (by kernel_rfl))⟩
  f22 := ⟨Try.f117.name, by decide, Try.func117.trans (congrArg some (by kernel_rfl))⟩
  f23 := ⟨Try.f118.name, by decide, Try.func118.trans (congrArg some (by kernel_rfl))⟩
  f24 := ⟨Try.f119.name, by decide, Try.func119.trans (congrArg some (by kernel_rfl))⟩
  f25 := ⟨Try.f120.name, by decide, Try.func120.trans (congrArg some (by kernel_rfl))⟩
  f26 := ⟨Try.f121.name, by decide, Try.func121.trans (congrArg some (by kernel_rfl))⟩
  f27 := ⟨Try.f122.name, by decide, Try.func122.trans (congrArg some (by kernel_rfl))⟩
  f28 := Try.func123.trans (congrArg some (by kernel_rfl))
  f29 := Try.func124.trans (congrArg some (by kernel_rfl))
  f46 := ⟨Try.f125.name, by decide, Try.func125.trans (congrArg some (by kernel_rfl))⟩
  f47 := Try.func126.trans (congrArg some (by kernel_rfl))
  f48 := Try.func127.trans (congrArg some (by kernel_rfl))
  f49 := ⟨Try.f128.name, by decide, Try.func128.trans (congrArg some (by kernel_rfl))⟩
  f50 := ⟨Try.f129.name, by decide, Try.func129.trans (congrArg some (by kernel_rfl))⟩
  f57 := ⟨Try.f130.name, by decide, Try.func130.trans (congrArg some (by kernel_rfl))⟩
  t0 := Try.underlying0
  a0 := Try.isAgg0
  z0 := Try.sizeOf0
  v0 := Try.zeroValue0
  t3 := Try.underlying3
  a3 := Try.isAgg3
  z3 := Try.sizeOf3
  v3 := Try.zeroValue3
  t4 := Try.underlying4
  a4 := Try.isAgg4
  z4 := Try.sizeOf4
  v4 := Try.zeroValue4
  t5 := Try.underlying5
  a5 := Try.isAgg5
  z5 := Try.sizeOf5
  v5 := Try.zeroValue5
  t9 := Try.underlying9
  a9 := Try.isAgg9
  z9 := Try.sizeOf9
  v9 := Try.zeroValue9
  t22 := Try.underlying52
  a22 := Try.isAgg52
  z22 := Try.sizeOf52
  v22 := Try.zeroValue52
  t25 := Try.underlying161
  a25 := Try.isAgg161
  z25 := Try.sizeOf161
  v25 := Try.zeroValue161
  t39 := Try.underlying171
  a39 := Try.isAgg171
  z39 := Try.sizeOf171
  v39 := Try.zeroValue171
  t45 := Try.underlying173
  a45 := Try.isAgg173
  z45 := Try.sizeOf173
  v45 := Try.zeroValue173
  t46 := Try.underlying174
  a46 := Try.isAgg174
  z46 := Try.sizeOf174
  v46 := Try.zeroValue174
  t50 := Try.underlying178
  a50 := Try.isAgg178
  z50 := Try.sizeOf178
  v50 := Try.zeroValue178
  t53 := Try.underlying181
  a53 := Try.isAgg181
  z53 := Try.sizeOf181
  v53 := Try.zeroValue181
  t55 := Try.underlying183
  a55 := Try.isAgg183
  z55 := Try.sizeOf183
  v55 := Try.zeroValue183
  t66 := Try.underlying184
  a66 := Try.isAgg184
  z66 := Try.sizeOf184
  v66 := Try.zeroValue184
  t70 := Try.underlying188
  a70 := Try.isAgg188
  z70 := Try.sizeOf188
  v70 := Try.zeroValue188
  t76 := Try.underlying190
  a76 := Try.isAgg190
  z76 := Try.sizeOf190
  v76 := Try.zeroValue190
  t77 := Try.underlying86
  a77 := Try.isAgg86
  z77 := Try.sizeOf86
  v77 := Try.zeroValue86 }
end Go.Proofs
namespace Go.Ge
open Go Go.RowKit Go.Proofs Go.Shelf Go.Sort

/-- A hook by a table of what functions answer. -/
def HSp {R : Type} (spec : Nat → List V → Option V) (N : Nat) : Hk R :=
  { C := fun f vs k => match spec f vs with | some v => k v | none => none
    S := fun _ _ _ _ _ => none, J := fun _ => none, N := N }
def SpecOk (P : Program) (spec : Nat → List V → Option V) : Prop := ∀ f vs v, spec f vs = some v → CallOk P f vs (fun u => u = v) ∧ pureV 5 v = true
theorem hsp_law {R : Type} {P : Program} {spec : Nat → List V → Option V} (h : SpecOk P spec) (N : Nat) (r : R) : CallLaw P (HSp spec N) r ∧ MLaw P (HSp spec N) r := by
  refine ⟨⟨fun f vs kk hk => ?_, fun l hk => by simp [HSp] at hk, fun f t n hk => by simp [HSp] at hk, fun f t l c kk hk => by simp [HSp] at hk, fun f hk => by simp [HSp] at hk, fun f t l c kk hk => by simp [HSp] at hk⟩,
    ⟨fun Y g vs d mem kk hk => by simp [HSp] at hk, fun Y g vs d mem kk hk => by simp [HSp] at hk, fun Y g vs d mem kk hk => by simp [HSp] at hk⟩⟩
  simp only [HSp] at hk
  split at hk
  · rename_i v hv
    obtain ⟨h1, h2⟩ := h f vs v hv
    exact ⟨h1.mono fun u _ hu => by rw [hu]; exact hk, v, h2, hk⟩
  · simp at hk
open Classical in
/-- The last continuation: the answer is v. -/
noncomputable def isV (v : V) : V → Option Unit := fun u => if u = v then some () else none
theorem isV_self (v : V) : isV v v = some () := by simp [isV]
theorem isV_eq {u v : V} (h : isV v u = some ()) : u = v := by
  unfold isV at h
  split at h
  · assumption
  · simp at h
/-- A function's contract by its evaluation. -/
theorem ok_of {P : Program} (hm : P.follows .mixedOrders = true) {spec : Nat → List V → Option V} (hs : SpecOk P spec) {N : Nat} {f : Nat} {fn : Func} {F : IF} (hf : P.funcs[f]? = some fn) (hok : funcOk P fn F = true) {vs : List V} {v : V} (h : evF (HSp spec N) F vs (isV v) = some ()) :
    CallOk P f vs (fun u => u = v) ∧ pureV 5 v = true := by
  obtain ⟨h1, h2⟩ := hsp_law (R := Unit) hs N ()
  obtain ⟨h3, u, h4, h5⟩ := func_sound h1 h2 hm hf hok h
  exact ⟨h3.mono fun u _ hu => isV_eq hu, by rw [← isV_eq h5]; exact h4⟩
def spec0 : Nat → List V → Option V := fun _ _ => none
theorem spec0_ok (P : Program) : SpecOk P spec0 := fun f vs v h => by simp [spec0] at h

/-! ### The order of winds -/
def lessV (a b c d : Int) : Int := IntKind.i64.wrap (IntKind.i64.wrap (a * d) - IntKind.i64.wrap (c * b))
theorem less_ev {R : Type} (H : Hk R) (k : V → Option R) (a b c d : Int) : evF H f106 [.agg [.i .i64 a, .i .i64 b], .agg [.i .i64 c, .i .i64 d]] k = k (.i .i64 (lessV a b c d)) := by kernel_rfl
theorem parts_ev {R : Type} (H : Hk R) (k : V → Option R) (a b c d : Int) : evF H f67 [.agg [.i .i64 a, .i .i64 b, .i .i64 c, .i .i64 d]] k = k (.agg [.i .i64 a, .i .i64 b, .i .i64 c]) := by kernel_rfl
def specO (f : Nat) (vs : List V) : Option V :=
  match f, vs with
  | 106, [.agg [.i .i64 a, .i .i64 b], .agg [.i .i64 c, .i .i64 d]] => some (.i .i64 (lessV a b c d))
  | 67, [.agg [.i .i64 a, .i .i64 b, .i .i64 c, .i .i64 _]] => some (.agg [.i .i64 a, .i .i64 b, .i .i64 c])
  | _, _ => none
theorem mixed_ok : Try.prog.follows .mixedOrders = true := by decide +kernel
theorem f106_ok : funcOk Try.prog Try.f106 f106 = true := by decide +kernel
theorem f67_ok : funcOk Try.prog Try.f67 f67 = true := by decide +kernel
theorem f104_ok : funcOk Try.prog Try.f104 f104 = true := by decide +kernel
theorem specO_ok : SpecOk Try.prog specO := by
  intro f vs v h
  unfold specO at h
  split at h
  · rename_i a b c d
    simp only [Option.some.injEq] at h
    subst h
    exact ok_of (N := 10) mixed_ok (spec0_ok _) Try.func106 f106_ok (by rw [less_ev]; exact isV_self _)
  · rename_i a b c d
    simp only [Option.some.injEq] at h
    subst h
    exact ok_of (N := 10) mixed_ok (spec0_ok _) Try.func67 f67_ok (by rw [parts_ev]; exact isV_self _)
  · simp at h
def cfW (x y : T windT) : Int :=
  bif lessV x.1 x.2.2.2 y.1 y.2.2.2 != 0 then lessV x.1 x.2.2.2 y.1 y.2.2.2 else
  bif lessV x.2.1 x.2.2.2 y.2.1 y.2.2.2 != 0 then lessV x.2.1 x.2.2.2 y.2.1 y.2.2.2 else
  bif lessV x.2.2.1 x.2.2.2 y.2.2.1 y.2.2.2 != 0 then lessV x.2.2.1 x.2.2.2 y.2.2.1 y.2.2.2 else 0
def wv (x : T windT) : V := .agg [.i .i64 x.1, .i .i64 x.2.1, .i .i64 x.2.2.1, .i .i64 x.2.2.2]
theorem ordered_ev {R : Type} (k : V → Option R) (x y : T windT) : evF (HSp specO 5) f104 [wv x, wv y] k =
    bif lessV x.1 x.2.2.2 y.1 y.2.2.2 != 0 then k (.i .i64 (lessV x.1 x.2.2.2 y.1 y.2.2.2)) else
    bif lessV x.2.1 x.2.2.2 y.2.1 y.2.2.2 != 0 then k (.i .i64 (lessV x.2.1 x.2.2.2 y.2.1 y.2.2.2)) else
    bif lessV x.2.2.1 x.2.2.2 y.2.2.1 y.2.2.2 != 0 then k (.i .i64 (lessV x.2.2.1 x.2.2.2 y.2.2.1 y.2.2.2)) else k (.i .i64 0) := by kernel_rfl
theorem ordered_ok (x y : T windT) : CallOk Try.prog 104 [wv x, wv y] (fun u => u = .i .i64 (cfW x y)) := by
  refine (ok_of (N := 5) mixed_ok specO_ok Try.func104 f104_ok ?_).1
  rw [ordered_ev]
  unfold cfW
  cases (lessV x.1 x.2.2.2 y.1 y.2.2.2 != 0) with
  | true => exact isV_self _
  | false =>
    cases (lessV x.2.1 x.2.2.2 y.2.1 y.2.2.2 != 0) with
    | true => exact isV_self _
    | false =>
      cases (lessV x.2.2.1 x.2.2.2 y.2.2.1 y.2.2.2 != 0) with
      | true => exact isV_self _
      | false => exact isV_self _
end Go.Ge
