/- The program's check of valid profiles, and the wind at a height within one. -/
import Derived.Test.YtneeobmefioenaaGeSpec3
namespace Go.Ge
open Go Go.RowKit Go.Proofs

noncomputable def cB (p : Prop) : Bool := @decide p (Classical.propDecidable _)
theorem cB_iff {p : Prop} : cB p = true ↔ p := by unfold cB; exact @decide_eq_true_iff _ (Classical.propDecidable _)
theorem bOf_some {s : Nat → List V → Option (Bool × V)} {f : Nat} {vs : List V} {v : V} (h : bOf s f vs = some v) : s f vs = some (true, v) := by
  unfold bOf at h
  split at h
  · rename_i c u e
    cases c with
    | true => simp only [cond_true, Option.some.injEq] at h; rw [e, h]
    | false => simp at h
  · simp at h
theorem some_bOf {s : Nat → List V → Option (Bool × V)} {f : Nat} {vs : List V} {v : V} (h : s f vs = some (true, v)) : bOf s f vs = some v := by
  unfold bOf; rw [h]; rfl

/-! ### One layer (84) -/
theorem ev84 {R : Type} (l : List Lay) (n : Nat) (h x1 x2 y1 y2 z1 z2 : Int) (k : V → Option R) :
    evF (HSp spec3 10) f84 [.i .i64 (Int.ofNat n), .agg [.i .i64 h, .i .i64 x1, .i .i64 x2, .i .i64 y1, .i .i64 y2, .i .i64 z1, .i .i64 z2], .pc [.sl layT l false false] 0 true] k =
    bif !(Int.ofNat n == 0) then
      (bif decide (0 ≤ List.foldl mxI 0 [wr (Int.ofNat n - 1)]) then optK l[Int.toNat (List.foldl mxI 0 [wr (Int.ofNat n - 1)])]? fun x =>
        k (.i .i64 (firstE [heightE h, rangeE x1 x2 100000, rangeE y1 y2 100000, rangeE z1 z2 100000, bif decide (h > x.1) then 0 else 9])) else none)
    else k (.i .i64 (firstE [heightE h, rangeE x1 x2 100000, rangeE y1 y2 100000, rangeE z1 z2 100000, 0])) := by kernel_rfl
theorem heightE_ok {h : Int} (a : 0 ≤ h) (b : h ≤ 20000) : heightE h = 0 := by simp [heightE, errIf, withinB, a, b]
theorem rangeE_ok {a b : Int} (h : sideOk (a, b)) : rangeE a b 100000 = 0 := by
  obtain ⟨h1, h2, h3⟩ := h
  simp only at h1 h2 h3
  have e : wr (-100000) = -100000 := by decide
  have e1 : sizedB a 100000 = true := by simp [sizedB, withinB, e, h1, show a ≤ 100000 by omega]
  have e2 : sizedB b 100000 = true := by simp [sizedB, withinB, e, h3, show -100000 ≤ b by omega]
  simp [rangeE, e1, e2, h2, errIf, firstE]
theorem wr_pred (n : Nat) (h : n < 1000) : wr (Int.ofNat (n + 1) - 1) = Int.ofNat n := by
  rw [wr, wrap_id (by simp <;> omega) (by simp <;> omega)]
  simp
theorem get_lt {α : Type} {l : List α} {n : Nat} {x : α} (h : l[n]? = some x) : n < l.length := by
  rcases Nat.lt_or_ge n l.length with h1 | h1
  · exact h1
  · simp [List.getElem?_eq_none h1] at h
theorem run84 {R : Type} (l : List Lay) (hl : VL l) (n : Nat) (x : Lay) (hx : l[n]? = some x) (k : V → Option R) :
    evF (HSp spec3 10) f84 [.i .i64 (Int.ofNat n), .agg [.i .i64 x.1, .i .i64 x.2.1.1, .i .i64 x.2.1.2, .i .i64 x.2.2.1.1, .i .i64 x.2.2.1.2, .i .i64 x.2.2.2.1, .i .i64 x.2.2.2.2], .pc [.sl layT l false false] 0 true] k = k (.i .i64 0) := by
  rw [ev84]
  obtain ⟨⟨h1, h2⟩, h3, h4, h5⟩ := hl.el n x hx
  have e1 := heightE_ok h1 h2
  have e2 := rangeE_ok (a := x.2.1.1) (b := x.2.1.2) h3
  have e3 := rangeE_ok (a := x.2.2.1.1) (b := x.2.2.1.2) h4
  have e4 := rangeE_ok (a := x.2.2.2.1) (b := x.2.2.2.2) h5
  rw [e1, e2, e3, e4]
  cases n with
  | zero => rfl
  | succ p =>
    have hp := get_lt hx
    have := hl.le
    have hy : l[p]? = some l[p] := by simp
    rw [wr_pred p (by omega), show (!(Int.ofNat (p + 1) == 0)) = true from rfl, cond_true]
    have hm : List.foldl mxI 0 [Int.ofNat p] = Int.ofNat p := by
      show mxI 0 (Int.ofNat p) = Int.ofNat p
      unfold mxI
      have : (0 : Int) ≤ (p : Int) := by omega
      simp <;> omega
    rw [hm, show decide (0 ≤ Int.ofNat p) = true from decide_eq_true (by show (0 : Int) ≤ (p : Int); omega), cond_true, show Int.toNat (Int.ofNat p) = p from rfl, hy]
    simp only [optK]
    rw [show decide (x.1 > (l[p]).1) = true from decide_eq_true (hl.inc p _ _ hy hx)]
    rfl
noncomputable def spec5 (f : Nat) (vs : List V) : Option (Bool × V) :=
  match f, vs with
  | 84, [.i .i64 (.ofNat n), .agg [.i .i64 h, .i .i64 x1, .i .i64 x2, .i .i64 y1, .i .i64 y2, .i .i64 z1, .i .i64 z2],
      .pc [.sl (.prod (.int .i64) (.prod (.prod (.int .i64) (.int .i64)) (.prod (.prod (.int .i64) (.int .i64)) (.prod (.int .i64) (.int .i64))))) l false false] 0 true] =>
    some (cB (VL l ∧ l[n]? = some (h, (x1, x2), (y1, y2), (z1, z2))), .i .i64 0)
  | f, vs => spec4 f vs
theorem spec5_ok : SpecOk Try.prog (bOf spec5) := by
  intro f vs v h
  replace h := bOf_some h
  unfold spec5 at h
  split at h
  · rename_i n h' x1 x2 y1 y2 z1 z2 l
    simp only [Option.some.injEq, Prod.mk.injEq] at h
    obtain ⟨hc, rfl⟩ := h
    obtain ⟨hl, hx⟩ := cB_iff.1 hc
    exact ok_s spec3_ok 10 (F := f84) (by kernel_rfl) (by rw [run84 l hl n _ hx]; exact isV_self _)
  · exact spec4_ok _ _ _ (some_bOf h)

/-! ### All layers (83), and the first one that is high enough (86) -/
def st83 (l : List Lay) (n : Nat) : Env := [(2, .fn 84 [.pc [.sl layT l false false] 0 true]), (26, .sl layT l false false), (27, .i .i64 l.length), (28, .i .i64 (Int.ofNat n))]
theorem step83 {R : Type} (l : List Lay) (m n : Nat) (K : Ex → Env → Mem → Option R) :
    loopK (fun env mem k => evC (HSb spec5 100) Y0 c83_b0 0 env mem k) (m + 1) (st83 l n) [] K =
    bif decide (Int.ofNat n < (l.length : Int)) then (optK l[Int.toNat (Int.ofNat n)]? fun x => bif cB (VL l ∧ l[n]? = some (x.1, (x.2.1.1, x.2.1.2), (x.2.2.1.1, x.2.2.1.2), (x.2.2.2.1, x.2.2.2.2))) then
      (loopK (fun env mem k => evC (HSb spec5 100) Y0 c83_b0 0 env mem k) m [(2, .fn 84 [.pc [.sl layT l false false] 0 true]), (26, .sl layT l false false), (27, .i .i64 l.length), (28, .i .i64 (wr (Int.ofNat n + 1)))] [] K) else none)
    else K (.exit 0) [(2, .fn 84 [.pc [.sl layT l false false] 0 true]), (26, .sl layT l false false), (27, .i .i64 l.length), (28, .i .i64 (Int.ofNat n)), (29, .b (decide (Int.ofNat n < (l.length : Int))))] [] := by kernel_rfl
theorem head83 {R : Type} (l : List Lay) (k : V → Option R) : evF (HSb spec5 100) f83 [.sl layT l false false, .i .i64 12, .fn 84 [.pc [.sl layT l false false] 0 true]] k =
    bif firstE [errIf (decide ((l.length : Int) > 0)) 10, errIf (decide ((l.length : Int) ≤ 12)) 8] != 0 then k (.tup [.i .i64 0, .i .i64 (firstE [errIf (decide ((l.length : Int) > 0)) 10, errIf (decide ((l.length : Int) ≤ 12)) 8])]) else
    loopK (fun env mem k => evC (HSb spec5 100) Y0 c83_b0 0 env mem k) 100 (st83 l 0) [] (c83_k0 (HSb spec5 100) Y0 0 (kF f83 k)) := by kernel_rfl
theorem end83 {R : Type} (H : Hk R) (u v w x y : V) (k : V → Option R) : c83_k0 H Y0 0 (kF f83 k) (.exit 0) [(2, u), (26, v), (27, w), (28, x), (29, y)] [] = k (.tup [.i .i64 0, .i .i64 0]) := by kernel_rfl
theorem run83 {R : Type} (l : List Lay) (hl : VL l) (k : V → Option R) : evF (HSb spec5 100) f83 [.sl layT l false false, .i .i64 12, .fn 84 [.pc [.sl layT l false false] 0 true]] k = k (.tup [.i .i64 0, .i .i64 0]) := by
  have h1 := hl.ne
  have h2 := hl.le
  rw [head83, show decide ((l.length : Int) > 0) = true from decide_eq_true (by omega), show decide ((l.length : Int) ≤ 12) = true from decide_eq_true (by omega), show (firstE [errIf true 10, errIf true 8] != 0) = false from rfl, cond_false]
  refine loop_up _ (st83 l) _ (fun _ => k (.tup [.i .i64 0, .i .i64 0])) l.length (fun n m hn => .inr ⟨?_, rfl⟩) (fun m => ?_) l.length 0 100 (by omega) (by omega)
  · have hx : l[n]? = some l[n] := by simp
    rw [step83, show decide (Int.ofNat n < (l.length : Int)) = true from decide_eq_true (by show (n : Int) < _; omega), cond_true, show Int.toNat (Int.ofNat n) = n from rfl]
    simp only [hx, optK]
    rw [cB_iff.2 ⟨hl, trivial⟩, cond_true, wr_succ n (by omega)]
    rfl
  · rw [step83, show decide (Int.ofNat l.length < (l.length : Int)) = false from decide_eq_false (by show ¬ (l.length : Int) < _; omega), cond_false, end83]
def fi (g : Int) : List Lay → Nat
  | [] => 0
  | x :: r => bif decide (x.1 ≥ g) then 0 else fi g r + 1
def st86 (l : List Lay) (g : Int) (n : Nat) : Env := [(0, .sl layT l false false), (1, .fn 87 [.pc [.i .i64 g] 0 true]), (7, .i .i64 l.length), (8, .i .i64 (Int.ofNat n))]
theorem step86 {R : Type} (l : List Lay) (g : Int) (m n : Nat) (K : Ex → Env → Mem → Option R) :
    loopK (fun env mem k => evC (HSp spec3 100) Y0 c86_b0 0 env mem k) (m + 1) (st86 l g n) [] K =
    bif decide (Int.ofNat n < (l.length : Int)) then (optK l[Int.toNat (Int.ofNat n)]? fun x => bif decide (x.1 ≥ g) then K .ret [(4, .i .i64 (Int.ofNat n))] [] else
      (loopK (fun env mem k => evC (HSp spec3 100) Y0 c86_b0 0 env mem k) m [(0, .sl layT l false false), (1, .fn 87 [.pc [.i .i64 g] 0 true]), (7, .i .i64 l.length), (8, .i .i64 (wr (Int.ofNat n + 1)))] [] K))
    else K (.exit 0) [(0, .sl layT l false false), (1, .fn 87 [.pc [.i .i64 g] 0 true]), (7, .i .i64 l.length), (8, .i .i64 (Int.ofNat n)), (9, .b (decide (Int.ofNat n < (l.length : Int))))] [] := by kernel_rfl
theorem head86 {R : Type} (l : List Lay) (g : Int) (k : V → Option R) : evF (HSp spec3 100) f86 [.sl layT l false false, .fn 87 [.pc [.i .i64 g] 0 true]] k =
    loopK (fun env mem k => evC (HSp spec3 100) Y0 c86_b0 0 env mem k) 100 (st86 l g 0) [] (c86_k0 (HSp spec3 100) Y0 0 (kF f86 k)) := by kernel_rfl
theorem out86 {R : Type} (H : Hk R) (x : Int) (k : V → Option R) : c86_k0 H Y0 0 (kF f86 k) .ret [(4, .i .i64 x)] [] = k (.i .i64 x) := by kernel_rfl
theorem run86 {R : Type} (l : List Lay) (g : Int) (hl : l.length ≤ 12) (hf : fi g l < l.length) (k : V → Option R) : evF (HSp spec3 100) f86 [.sl layT l false false, .fn 87 [.pc [.i .i64 g] 0 true]] k = k (.i .i64 (Int.ofNat (fi g l))) := by
  rw [head86]
  have key : ∀ (r p : List Lay) (m : Nat), l = p ++ r → r.length < m → fi g r < r.length →
      loopK (fun env mem k => evC (HSp spec3 100) Y0 c86_b0 0 env mem k) m (st86 l g p.length) [] (c86_k0 (HSp spec3 100) Y0 0 (kF f86 k)) = k (.i .i64 (Int.ofNat (p.length + fi g r))) := by
    intro r
    induction r with
    | nil => intro p m _ _ h; simp at h
    | cons x r ih =>
      intro p m hp hm hf
      obtain ⟨m, rfl⟩ : ∃ q, m = q + 1 := ⟨m - 1, by omega⟩
      have hlen : l.length = p.length + (r.length + 1) := by subst hp; simp
      have hx : l[p.length]? = some x := by subst hp; simp
      rw [step86, show decide (Int.ofNat p.length < (l.length : Int)) = true from decide_eq_true (by show (p.length : Int) < _; omega), cond_true, show Int.toNat (Int.ofNat p.length) = p.length from rfl, hx]
      simp only [optK]
      unfold fi at hf ⊢
      cases hc : decide (x.1 ≥ g) with
      | true => rw [cond_true, cond_true, out86]; rfl
      | false =>
        rw [hc, cond_false] at hf
        rw [cond_false, cond_false, wr_succ _ (by omega)]
        have := ih (p ++ [x]) m (by simp [hp]) (by simp at hm; omega) (by simp at hf; omega)
        rw [List.length_append, List.length_singleton] at this
        refine Eq.trans this ?_
        rw [show p.length + 1 + fi g r = p.length + (fi g r + 1) by omega]
  have := key l [] 100 rfl (by omega) hf
  simpa using this
noncomputable def spec6 (f : Nat) (vs : List V) : Option (Bool × V) :=
  match f, vs with
  | 83, [.sl (.prod (.int .i64) (.prod (.prod (.int .i64) (.int .i64)) (.prod (.prod (.int .i64) (.int .i64)) (.prod (.int .i64) (.int .i64))))) l false false, .i .i64 12,
      .fn 84 [.pc [.sl (.prod (.int .i64) (.prod (.prod (.int .i64) (.int .i64)) (.prod (.prod (.int .i64) (.int .i64)) (.prod (.int .i64) (.int .i64))))) l' false false] 0 true]] =>
    some (cB (VL l ∧ l' = l), .tup [.i .i64 0, .i .i64 0])
  | 86, [.sl (.prod (.int .i64) (.prod (.prod (.int .i64) (.int .i64)) (.prod (.prod (.int .i64) (.int .i64)) (.prod (.int .i64) (.int .i64))))) l false false, .fn 87 [.pc [.i .i64 g] 0 true]] =>
    some (cB (l.length ≤ 12 ∧ fi g l < l.length), .i .i64 (Int.ofNat (fi g l)))
  | f, vs => spec5 f vs
theorem spec6_ok : SpecOk Try.prog (bOf spec6) := by
  intro f vs v h
  replace h := bOf_some h
  unfold spec6 at h
  split at h
  · rename_i l l'
    simp only [Option.some.injEq, Prod.mk.injEq] at h
    obtain ⟨hc, rfl⟩ := h
    obtain ⟨hl, rfl⟩ := cB_iff.1 hc
    exact ok_b spec5_ok 100 (F := f83) (by kernel_rfl) (by rw [run83 _ hl]; exact isV_self _)
  · rename_i l g
    simp only [Option.some.injEq, Prod.mk.injEq] at h
    obtain ⟨hc, rfl⟩ := h
    obtain ⟨hl, hf⟩ := cB_iff.1 hc
    exact ok_s spec3_ok 100 (F := f86) (by kernel_rfl) (by rw [run86 l g hl hf]; exact isV_self _)
  · exact spec5_ok _ _ _ (some_bOf h)
end Go.Ge
