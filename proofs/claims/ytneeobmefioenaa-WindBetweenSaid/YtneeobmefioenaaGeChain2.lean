/- One answer. -/
import Derived.Test.YtneeobmefioenaaGeChain
namespace Go.Ge
open Go Go.RowKit

theorem cond_bind {α β : Type} (c : Bool) (x y : Option α) (f : α → Option β) : (bif c then x else y).bind f = bif c then x.bind f else y.bind f := by cases c <;> rfl
theorem ite_bind {α β : Type} (c : Prop) [Decidable c] (x y : Option α) (f : α → Option β) : (if c then x else y).bind f = if c then x.bind f else y.bind f := by split <;> rfl
theorem binK_bind {R : Type} {op : BinOp} {ag : Bool} {ls : List Nat} {x y : V} {k : V → Eff → Option R} : binK op ag ls x y (fun v => k v {}) = (binK op ag ls x y fun v => some (v, ({} : Eff))).bind fun p => k p.1 p.2 := by
  unfold binK
  cases x <;> cases y <;> first | rfl | skip
  · cases op <;> (simp only [cond_bind]; rfl)
  · cases op <;> simp only [cond_bind, ite_bind] <;> (try split) <;> first | rfl | (simp only [Option.bind_some, Option.bind_none])
  · cases op <;> first | rfl | (simp only [cond_bind]; rfl)
  · cases op <;> simp only [cond_bind] <;> (try split) <;> rfl
theorem ldK_bind {R : Type} {M : Nat → Option Blk} {p : V} {n : Nat} {ag : Bool} {k : V → Eff → Option R} : ldK M p n ag (fun v => k v {}) = (ldK M p n ag fun v => some (v, ({} : Eff))).bind fun p => k p.1 p.2 := by
  unfold ldK
  cases p <;> (try rfl) <;> simp only [cond_eq_ite] <;> (repeat' split) <;> first | rfl | (simp_all; done)
theorem stK_bind {R : Type} {M : Nat → Option Blk} {p : V} {n : Nat} {cs : List V} {v : V} {k : V → Eff → Option R} : stK M p n cs (fun b blk => k v { set := some (b, blk) }) = (stK M p n cs fun b blk => some (v, ({ set := some (b, blk) } : Eff))).bind fun p => k p.1 p.2 := by
  unfold stK
  cases p <;> simp only [cond_eq_ite] <;> (repeat' split) <;> first | rfl | (simp_all; done)
/-- The instructions of draw regions that make no call give one answer. -/
def plainI (i : I) : Bool := nmI i || roI i || wrI i || (match i with | .app _ _ _ _ => true | _ => false)
theorem evI_bind {R : Type} {H : Hk R} {i : I} {d : Nat} {E : Nat → Option V} {M : Nat → Option Blk} {k : V → Eff → Option R} (h : plainI i = true) : evI H i d E M k = (evD i d E M).bind fun p => k p.1 p.2 := by
  unfold evD
  cases i
  case bin op ag ls x y =>
    simp only [evI]
    cases ev E x <;> cases ev E y <;> first | rfl | exact binK_bind
  case ld n ag p =>
    simp only [evI]
    cases ev E p <;> first | rfl | exact ldK_bind
  case st n p x =>
    simp only [evI]
    cases ev E p <;> cases ev E x <;> first | rfl | exact stK_bind
  case sta n p x av =>
    simp only [evI]
    cases ev E p <;> cases ev E x <;> cases evs E av <;> (try rfl)
    simp only [cond_bind]
    congr 1
    exact stK_bind
  all_goals (try (simp [plainI, nmI, roI, wrI] at h; done))
  all_goals simp only [evI, rowK, cond_eq_ite]
  all_goals (try rfl)
  all_goals (repeat' split)
  all_goals first
    | rfl
    | (simp_all; done)
end Go.Ge
