/- slices.Clone of ints. -/
import Derived.Test.YtneeobmefioenaaGeFun
import Derived.Test.YtneeobmefioenaaGeIrB
namespace Go.Ge
open Go Go.RowKit
theorem CallOk.weaken {P : Program} {f : Nat} {vs : List V} {G G2 : V → Prop} (h : CallOk P f vs G) (hw : ∀ v, pureV 5 v = true → G v → ∃ v2, pureV 5 v2 = true ∧ G2 v2 ∧ ∀ c v', VR c v v' → VR c v2 v') : CallOk P f vs G2 :=
  ⟨h.enters, fun w B σ args' n hB hv => (h.calls w B σ args' n hB hv).mono fun _ _ ⟨v, v', h1, h2, h3, h4, h5⟩ => by
    obtain ⟨v2, q1, q2, q3⟩ := hw v h4 h5
    exact ⟨v2, v', h1, h2, q3 _ _ h3, q1, q2⟩⟩
theorem clone_cons {R : Type} (H : Hk R) (k : V → Option R) (x : Int) (l : List Int) (b e : Bool) : evF H f50 [.sl (.int .i64) (x :: l) b e] k = bif Nat.ble (0 + (x :: l).length) 4398046511104 && true then k (.sl (.int .i64) (x :: l) false false) else none := by
  cases b <;> rfl
theorem clone_nil {R : Type} (H : Hk R) (k : V → Option R) (b e : Bool) : evF H f50 [.sl (.int .i64) [] b e] k = H.J [k (.sl (.int .i64) [] false true), k (.sl (.int .i64) [] false false)] := by
  cases b <;> rfl
def okU : Option Unit → Bool
  | some _ => true
  | none => false
/-- A hook that joins. -/
def HJ : Hk Unit := { C := fun _ _ _ => none, S := fun _ _ _ _ _ => none, J := fun l => bif l.all okU then some () else none, N := 0 }
theorem hj_law (P : Program) : CallLaw P HJ () := by
  refine ⟨fun f vs kk h => by simp [HJ] at h, fun l h x hx => ?_, fun f t n h => by simp [HJ] at h, fun f t l c kk h => by simp [HJ] at h, fun f h => by simp [HJ] at h, fun f t l c kk h => by simp [HJ] at h⟩
  cases hl : l.all okU with
  | false => simp [HJ, hl] at h
  | true =>
    have := List.all_eq_true.1 hl x hx
    cases x with
    | none => simp [okU] at this
    | some u => rfl
theorem clone_ok {P : Program} (hm : P.follows .mixedOrders = true) {fn : Func} (hf : P.funcs[50]? = some fn) (hok : funcOk P fn f50 = true) (l : List Int) (b e : Bool) (hle : Nat.ble l.length 4398046511104 = true) :
    CallOk P 50 [.sl (.int .i64) l b e] fun v => v = .sl (.int .i64) l false false := by
  classical
  let kk : V → Option Unit := fun v => if v = .sl (.int .i64) l false false ∨ v = .sl (.int .i64) l false true then some () else none
  have hev : evF HJ f50 [.sl (.int .i64) l b e] kk = some () := by
    cases l with
    | nil =>
      rw [clone_nil]
      have h1 : kk (.sl (.int .i64) [] false true) = some () := if_pos (.inr rfl)
      have h2 : kk (.sl (.int .i64) [] false false) = some () := if_pos (.inl rfl)
      rw [h1, h2]
      rfl
    | cons x l =>
      rw [clone_cons]
      have h2 : kk (.sl (.int .i64) (x :: l) false false) = some () := if_pos (.inl rfl)
      rw [Nat.zero_add, hle, h2]
      rfl
  refine (func_sound (hj_law P) ⟨fun Y g vs d mem kk h => by simp [HJ] at h, fun Y g vs d mem kk h => by simp [HJ] at h, fun Y g vs d mem kk h => by simp [HJ] at h⟩ hm hf hok hev).1.weaken fun v hp hv => ?_
  have hv2 : v = .sl (.int .i64) l false false ∨ v = .sl (.int .i64) l false true := by
    by_cases hh : v = .sl (.int .i64) l false false ∨ v = .sl (.int .i64) l false true
    · exact hh
    · have : kk v = none := if_neg hh
      rw [this] at hv
      simp at hv
  rcases hv2 with rfl | rfl
  · exact ⟨_, rfl, rfl, fun _ _ h => h⟩
  · exact ⟨_, rfl, rfl, fun _ _ h => h.weaken fun h => by simp at h⟩
end Go.Ge
