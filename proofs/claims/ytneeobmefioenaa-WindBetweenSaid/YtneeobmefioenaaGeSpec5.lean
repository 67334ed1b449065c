/- The wind at a height within a profile, and the change between two heights. -/
import Derived.Test.YtneeobmefioenaaGeSpec4
namespace Go.Ge
open Go Go.RowKit Go.Proofs

abbrev Box : Type := (Int × Int) × (Int × Int) × (Int × Int)
def boxV (b : Box) : V := .agg [.i .i64 b.1.1, .i .i64 b.1.2, .i .i64 b.2.1.1, .i .i64 b.2.1.2, .i .i64 b.2.2.1, .i .i64 b.2.2.2]
def itR (a b : Int × Int) (t d : Int) : Int × Int := (btwLo a.1 b.1 t d, btwHi a.2 b.2 t d)
def itp (w x : Lay) (g : Int) : Box :=
  (itR w.2.1 x.2.1 (wr (g - w.1)) (wr (x.1 - w.1)), itR w.2.2.1 x.2.2.1 (wr (g - w.1)) (wr (x.1 - w.1)), itR w.2.2.2 x.2.2.2 (wr (g - w.1)) (wr (x.1 - w.1)))
def zBox : Box := ((0, 0), (0, 0), (0, 0))
def atJ (l : List Lay) (j : Nat) (g : Int) : Box :=
  match l[j]? with
  | some x => bif x.1 == g then x.2 else (match l[j - 1]? with | some w => itp w x g | none => zBox)
  | none => zBox
def atL (l : List Lay) (g : Int) : Box := atJ l (fi g l) g
structure InP (l : List Lay) (g : Int) : Prop where
  vl : VL l
  lo : ∀ x, l[0]? = some x → x.1 ≤ g
  hi : ∀ x, l[l.length - 1]? = some x → g ≤ x.1

theorem fi_ge (g : Int) : ∀ (l : List Lay) x, l[fi g l]? = some x → g ≤ x.1
  | [], x, h => by simp at h
  | y :: r, x, h => by
    unfold fi at h
    cases hc : decide (y.1 ≥ g) with
    | true =>
      rw [hc, cond_true] at h
      simp only [List.getElem?_cons_zero, Option.some.injEq] at h
      subst h
      exact of_decide_eq_true hc
    | false =>
      rw [hc, cond_false, List.getElem?_cons_succ] at h
      exact fi_ge g r x h
theorem fi_before (g : Int) : ∀ (l : List Lay) (i : Nat) x, i < fi g l → l[i]? = some x → x.1 < g
  | [], i, x, _, h => by simp at h
  | y :: r, i, x, hi, h => by
    unfold fi at hi
    cases hc : decide (y.1 ≥ g) with
    | true => rw [hc, cond_true] at hi; omega
    | false =>
      rw [hc, cond_false] at hi
      cases i with
      | zero =>
        simp only [List.getElem?_cons_zero, Option.some.injEq] at h
        subst h
        exact Int.not_le.mp (of_decide_eq_false hc)
      | succ i =>
        rw [List.getElem?_cons_succ] at h
        exact fi_before g r i x (by omega) h
theorem fi_le (g : Int) (l : List Lay) (i : Nat) (x : Lay) (h : l[i]? = some x) (hx : g ≤ x.1) : fi g l ≤ i := by
  rcases Nat.lt_or_ge i (fi g l) with h1 | h1
  · have := fi_before g l i x h1 h
    omega
  · exact h1
theorem InP.fi_lt {l : List Lay} {g : Int} (h : InP l g) : fi g l < l.length := by
  have := h.vl.ne
  have hx : l[l.length - 1]? = some (l[l.length - 1]'(by omega)) := by simp
  have := fi_le g l _ _ hx (h.hi _ hx)
  omega
/-- The heights grow. -/
theorem VL.mono {l : List Lay} (h : VL l) : ∀ (d i : Nat) x y, l[i]? = some x → l[i + d + 1]? = some y → x.1 < y.1
  | 0, i, x, y, hx, hy => h.inc i x y hx hy
  | d + 1, i, x, y, hx, hy => by
    have hl := get_lt hy
    have hz : l[i + d + 1]? = some (l[i + d + 1]'(by omega)) := by simp
    have h1 := VL.mono h d i x _ hx hz
    have h2 := h.inc _ _ y hz (by rw [show i + d + 1 + 1 = i + (d + 1) + 1 by omega]; exact hy)
    omega

theorem ev39 {R : Type} (l : List Lay) (k : V → Option R) : evF (HSb spec6 10) f39 [.sl layT l false false] k = bif cB (VL l ∧ l = l) then k (.tup [.i .i64 0, .i .i64 0]) else none := by kernel_rfl
def rest42 {R : Type} (l : List Lay) (j : Nat) (g : Int) (k : V → Option R) : Option R :=
  optK l[Int.toNat (Int.ofNat j)]? fun x => bif x.1 == g then (optK l[Int.toNat (Int.ofNat j)]? fun x => k (.tup [boxV x.2, .b true])) else
    bif decide (0 ≤ wr (Int.ofNat j - 1)) then (optK l[Int.toNat (wr (Int.ofNat j - 1))]? fun w => optK l[Int.toNat (Int.ofNat j)]? fun x =>
      bif decide (0 < wr (x.1 - w.1)) then (bif decide (0 < wr (x.1 - w.1)) then (bif decide (0 < wr (x.1 - w.1)) then k (.tup [boxV (itp w x g), .b true]) else none) else none) else none) else none
theorem ev42 {R : Type} (l : List Lay) (g : Int) (k : V → Option R) : evF (HSb spec6 10) f42 [.sl layT l false false, .i .i64 g] k =
    bif cB (l.length ≤ 12 ∧ fi g l < l.length) then (bif Int.ofNat (fi g l) == 0 then (optK l[Int.toNat 0]? fun x => bif decide (x.1 > g) then k (.tup [boxV zBox, .b false]) else rest42 l (fi g l) g k) else rest42 l (fi g l) g k) else none := by kernel_rfl
theorem height_bd {l : List Lay} (h : VL l) {i : Nat} {x : Lay} (hx : l[i]? = some x) : 0 ≤ x.1 ∧ x.1 ≤ 20000 := (h.el i x hx).1
theorem run42 {R : Type} (l : List Lay) (g : Int) (h : InP l g) (k : V → Option R) : evF (HSb spec6 10) f42 [.sl layT l false false, .i .i64 g] k = k (.tup [boxV (atL l g), .b true]) := by
  have hj := h.fi_lt
  have hle := h.vl.le
  have hne := h.vl.ne
  have hx : l[fi g l]? = some l[fi g l] := by simp
  have hr : rest42 l (fi g l) g k = k (.tup [boxV (atL l g), .b true]) := by
    unfold rest42 atL
    have hge := fi_ge g l _ hx
    generalize hxx : l[fi g l] = x at hx hge
    generalize hjj : fi g l = j at hx hj
    rw [show Int.toNat (Int.ofNat j) = j from rfl, hx]
    unfold atJ
    rw [hx]
    simp only [optK]
    cases hc : (x.1 == g) with
    | true => rfl
    | false =>
      have hc' : x.1 ≠ g := by simpa using hc
      cases j with
      | zero =>
        have := h.lo x hx
        omega
      | succ p =>
        have hw : l[p]? = some (l[p]'(by omega)) := by simp
        have hlt := fi_before g l p _ (by omega) hw
        rw [wr_pred p (by omega), show decide (0 ≤ Int.ofNat p) = true from decide_eq_true (by show (0 : Int) ≤ (p : Int); omega)]
        simp only [cond_false, cond_true]
        rw [show Int.toNat (Int.ofNat p) = p from rfl, show p + 1 - 1 = p from rfl, hw]
        generalize l[p]'(by omega) = w at hw hlt
        have b1 := height_bd h.vl hx
        have b2 := height_bd h.vl hw
        have hd : decide (0 < wr (x.1 - w.1)) = true := by
          rw [wr, wrap_id (by omega) (by omega)]
          exact decide_eq_true (by omega)
        simp only [hd, cond_true]
  rw [ev42, cB_iff.2 ⟨hle, hj⟩, cond_true, hr]
  cases hc : (Int.ofNat (fi g l) == 0) with
  | false => rfl
  | true =>
    have h0 : l[0]? = some (l[0]'(by omega)) := by simp
    rw [cond_true, show Int.toNat 0 = 0 from rfl, h0]
    simp only [optK]
    rw [show decide ((l[0]'(by omega)).1 > g) = false from decide_eq_false (by have := h.lo _ h0; omega)]
    rfl
noncomputable def spec7 (f : Nat) (vs : List V) : Option (Bool × V) :=
  match f, vs with
  | 39, [.sl (.prod (.int .i64) (.prod (.prod (.int .i64) (.int .i64)) (.prod (.prod (.int .i64) (.int .i64)) (.prod (.int .i64) (.int .i64))))) l false false] =>
    some (cB (VL l), .tup [.i .i64 0, .i .i64 0])
  | 42, [.sl (.prod (.int .i64) (.prod (.prod (.int .i64) (.int .i64)) (.prod (.prod (.int .i64) (.int .i64)) (.prod (.int .i64) (.int .i64))))) l false false, .i .i64 g] =>
    some (cB (InP l g), .tup [boxV (atL l g), .b true])
  | f, vs => spec6 f vs
theorem spec7_ok : SpecOk Try.prog (bOf spec7) := by
  intro f vs v h
  replace h := bOf_some h
  unfold spec7 at h
  split at h
  · rename_i l
    simp only [Option.some.injEq, Prod.mk.injEq] at h
    obtain ⟨hc, rfl⟩ := h
    exact ok_b spec6_ok 10 (F := f39) (by kernel_rfl) (by rw [ev39, cB_iff.2 ⟨cB_iff.1 hc, rfl⟩]; exact isV_self _)
  · rename_i l g
    simp only [Option.some.injEq, Prod.mk.injEq] at h
    obtain ⟨hc, rfl⟩ := h
    exact ok_b spec6_ok 10 (F := f42) (by kernel_rfl) (by rw [run42 l g (cB_iff.1 hc)]; exact isV_self _)
  · exact spec6_ok _ _ _ (some_bOf h)

def mnR (a b : Int × Int) : Int × Int := (wr (a.1 - b.2), wr (a.2 - b.1))
def chL (l : List Lay) (g h : Int) : Box := (mnR (atL l h).1 (atL l g).1, mnR (atL l h).2.1 (atL l g).2.1, mnR (atL l h).2.2 (atL l g).2.2)
theorem ev9 {R : Type} (l : List Lay) (g : Int) (k : V → Option R) : evF (HSb spec7 10) f9 [.sl layT l false false, .i .i64 g] k =
    bif cB (VL l) then (bif firstE [0, heightE g] != 0 then k (.tup [boxV zBox, .i .i64 (firstE [0, heightE g])]) else bif cB (InP l g) then k (.tup [boxV (atL l g), .i .i64 0]) else none) else none := by kernel_rfl
theorem ev12 {R : Type} (l : List Lay) (g h : Int) (k : V → Option R) : evF (HSb spec7 10) f12 [.sl layT l false false, .agg [.i .i64 g, .i .i64 h]] k =
    bif cB (VL l) then (bif firstE [0, heightE g, heightE h, errIf (decide (g ≤ h)) 9] != 0 then k (.tup [boxV zBox, .i .i64 (firstE [0, heightE g, heightE h, errIf (decide (g ≤ h)) 9])]) else
      bif cB (InP l g) then (bif cB (InP l h) then k (.tup [boxV (chL l g h), .i .i64 0]) else none) else none) else none := by kernel_rfl
theorem InP.bd {l : List Lay} {g : Int} (h : InP l g) : 0 ≤ g ∧ g ≤ 20000 := by
  have hne := h.vl.ne
  have h0 : l[0]? = some (l[0]'(by omega)) := by simp
  have h1 : l[l.length - 1]? = some (l[l.length - 1]'(by omega)) := by simp
  have := h.lo _ h0
  have := h.hi _ h1
  have := height_bd h.vl h0
  have := height_bd h.vl h1
  omega
theorem InP.hE {l : List Lay} {g : Int} (h : InP l g) : heightE g = 0 := heightE_ok h.bd.1 h.bd.2
noncomputable def spec8 (f : Nat) (vs : List V) : Option (Bool × V) :=
  match f, vs with
  | 6, [] => some (true, .b true)
  | 7, [.sl (.prod (.int .i64) (.prod (.prod (.int .i64) (.int .i64)) (.prod (.prod (.int .i64) (.int .i64)) (.prod (.int .i64) (.int .i64))))) l true false] =>
    some (true, .i .i64 (p38 l).2)
  | 10, [.sl (.prod (.int .i64) (.prod (.prod (.int .i64) (.int .i64)) (.prod (.prod (.int .i64) (.int .i64)) (.prod (.int .i64) (.int .i64))))) l true false] =>
    some (cB (VL l), .sl layT l false false)
  | 9, [.sl (.prod (.int .i64) (.prod (.prod (.int .i64) (.int .i64)) (.prod (.prod (.int .i64) (.int .i64)) (.prod (.int .i64) (.int .i64))))) l false false, .i .i64 g] =>
    some (cB (InP l g), .tup [boxV (atL l g), .i .i64 0])
  | 12, [.sl (.prod (.int .i64) (.prod (.prod (.int .i64) (.int .i64)) (.prod (.prod (.int .i64) (.int .i64)) (.prod (.int .i64) (.int .i64))))) l false false, .agg [.i .i64 g, .i .i64 h]] =>
    some (cB (InP l g ∧ InP l h ∧ g ≤ h), .tup [boxV (chL l g h), .i .i64 0])
  | f, vs => spec7 f vs
def spec38 (q : List Lay → Int × Int) (f : Nat) (vs : List V) : Option V :=
  match f, vs with
  | 38, [.sl (.prod (.int .i64) (.prod (.prod (.int .i64) (.int .i64)) (.prod (.prod (.int .i64) (.int .i64)) (.prod (.int .i64) (.int .i64))))) l true false] => some (.tup [.i .i64 (q l).1, .i .i64 (q l).2])
  | f, vs => spec2 f vs
theorem spec38_ok : SpecOk Try.prog (spec38 p38) := by
  intro f vs v h
  unfold spec38 at h
  split at h
  · rename_i l
    simp only [Option.some.injEq] at h; subst h
    exact ok_s spec2_ok 100 (F := f38) (by kernel_rfl) (by rw [(p38_ok l).2]; exact isV_self _)
  · exact spec2_ok _ _ _ h
theorem ev7 {R : Type} (q : List Lay → Int × Int) (l : List Lay) (k : V → Option R) : evF (HSp (spec38 q) 10) f7 [.sl layT l true false] k = k (.i .i64 (q l).2) := by kernel_rfl
theorem spec8_ok : SpecOk Try.prog (bOf spec8) := by
  intro f vs v h
  replace h := bOf_some h
  unfold spec8 at h
  split at h
  · simp only [Option.some.injEq, Prod.mk.injEq, true_and] at h
    subst h
    exact awake_ok
  · rename_i l
    simp only [Option.some.injEq, Prod.mk.injEq, true_and] at h
    subst h
    exact ok_s spec38_ok 10 (F := f7) (by kernel_rfl) (by rw [ev7]; exact isV_self _)
  · rename_i l
    simp only [Option.some.injEq, Prod.mk.injEq] at h
    obtain ⟨hc, rfl⟩ := h
    have hl := cB_iff.1 hc
    refine ok_s (spec0_ok _) 10 (F := f10) (by kernel_rfl) ?_
    obtain ⟨x, r, rfl⟩ : ∃ x r, l = x :: r := by
      cases l with
      | nil => exact absurd hl.ne (by simp)
      | cons x r => exact ⟨x, r, rfl⟩
    rw [ev10c]
    have : Nat.ble (0 + (x :: r).length) 628292358729 = true := by
      have := hl.le
      rw [Nat.ble_eq]; omega
    rw [this]
    exact isV_self _
  · rename_i l g
    simp only [Option.some.injEq, Prod.mk.injEq] at h
    obtain ⟨hc, rfl⟩ := h
    have hl := cB_iff.1 hc
    exact ok_b spec7_ok 10 (F := f9) (by kernel_rfl) (by rw [ev9, cB_iff.2 hl.vl, cB_iff.2 hl, hl.hE]; exact isV_self _)
  · rename_i l g h'
    simp only [Option.some.injEq, Prod.mk.injEq] at h
    obtain ⟨hc, rfl⟩ := h
    obtain ⟨h1, h2, h3⟩ := cB_iff.1 hc
    exact ok_b spec7_ok 10 (F := f12) (by kernel_rfl) (by rw [ev12, cB_iff.2 h1.vl, cB_iff.2 h1, cB_iff.2 h2, h1.hE, h2.hE, show decide (g ≤ h') = true from decide_eq_true h3]; exact isV_self _)
  · exact spec7_ok _ _ _ (some_bOf h)
end Go.Ge
