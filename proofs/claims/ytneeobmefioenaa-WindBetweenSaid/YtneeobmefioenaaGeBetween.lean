/- WindBetween (function 3) answers true. -/
import Derived.Test.YtneeobmefioenaaGePlain3
namespace Go.Ge
open Go Go.RowKit Go.Proofs

/-! ### The wind at a height -/
def inB (r a b : Int × Int) : Prop := mnI a.1 b.1 ≤ r.1 ∧ r.1 ≤ r.2 ∧ r.2 ≤ mxI a.2 b.2
theorem atL_eq {l : List Lay} (h : VL l) {n : Nat} {x : Lay} (hx : l[n]? = some x) : InP l x.1 ∧ atL l x.1 = x.2 := by
  have hn := get_lt hx
  have hin : InP l x.1 := by
    refine ⟨h, fun y hy => ?_, fun y hy => ?_⟩
    · cases n with
      | zero => rw [hx] at hy; have := Option.some.inj hy; subst this; omega
      | succ p =>
        have := h.mono p 0 y x hy (by rw [show 0 + p + 1 = p + 1 by omega]; exact hx)
        omega
    · rcases Nat.lt_or_ge n (l.length - 1) with hl | hl
      · have := h.mono (l.length - 1 - n - 1) n x y hx (by rw [show n + (l.length - 1 - n - 1) + 1 = l.length - 1 by omega]; exact hy)
        omega
      · have : l.length - 1 = n := by omega
        rw [this, hx] at hy
        have := Option.some.inj hy
        subst this; omega
  refine ⟨hin, ?_⟩
  have hj := hin.fi_lt
  have hf := fi_le x.1 l n x hx (by omega)
  have he : fi x.1 l = n := by
    rcases Nat.lt_or_ge (fi x.1 l) n with hl | hl
    · have hz : l[fi x.1 l]? = some (l[fi x.1 l]'hj) := by simp
      have h1 := fi_ge x.1 l _ hz
      have h2 := h.mono (n - fi x.1 l - 1) (fi x.1 l) _ x hz (by rw [show fi x.1 l + (n - fi x.1 l - 1) + 1 = n by omega]; exact hx)
      omega
    · omega
  unfold atL atJ
  rw [he, hx]
  simp
theorem atL_btw {l : List Lay} (h : VL l) {n : Nat} {x y : Lay} (hx : l[n]? = some x) (hy : l[n + 1]? = some y) {g : Int} (h1 : x.1 ≤ g) (h2 : g ≤ y.1) :
    InP l g ∧ inB (atL l g).1 x.2.1 y.2.1 ∧ inB (atL l g).2.1 x.2.2.1 y.2.2.1 ∧ inB (atL l g).2.2 x.2.2.2 y.2.2.2 := by
  have ix := (atL_eq h hx).1
  have iy := (atL_eq h hy).1
  have hin : InP l g := ⟨h, fun z hz => by have := ix.lo z hz; omega, fun z hz => by have := iy.hi z hz; omega⟩
  refine ⟨hin, ?_⟩
  have ox := h.el n x hx
  have oy := h.el _ y hy
  have self_ok : ∀ a b : Int × Int, sideOk a → inB a a b ∧ inB a b a := by
    intro a b ⟨p, q, r⟩
    unfold inB mnI mxI
    refine ⟨⟨?_, q, ?_⟩, ⟨?_, q, ?_⟩⟩ <;> split <;> omega
  by_cases e1 : x.1 = g
  · subst e1
    rw [(atL_eq h hx).2]
    exact ⟨(self_ok _ _ ox.2.1).1, (self_ok _ _ ox.2.2.1).1, (self_ok _ _ ox.2.2.2).1⟩
  · by_cases e2 : y.1 = g
    · subst e2
      rw [(atL_eq h hy).2]
      exact ⟨(self_ok _ _ oy.2.1).2, (self_ok _ _ oy.2.2.1).2, (self_ok _ _ oy.2.2.2).2⟩
    · have hf := fi_le g l (n + 1) y hy h2
      have hj := hin.fi_lt
      have he : fi g l = n + 1 := by
        rcases Nat.lt_or_ge (fi g l) (n + 1) with hl | hl
        · have hz : l[fi g l]? = some (l[fi g l]'hj) := by simp
          have h3 := fi_ge g l _ hz
          rcases Nat.lt_or_ge (fi g l) n with hl2 | hl2
          · have h4 := h.mono (n - fi g l - 1) (fi g l) _ x hz (by rw [show fi g l + (n - fi g l - 1) + 1 = n by omega]; exact hx)
            omega
          · have : fi g l = n := by omega
            have hz' := hz
            simp only [this] at hz'
            rw [hx] at hz'
            have := Option.some.inj hz'
            simp only [‹fi g l = n›] at h3
            rw [← this] at h3
            omega
        · omega
      have hat : atL l g = itp x y g := by
        unfold atL atJ
        rw [he, hy, show n + 1 - 1 = n from rfl, hx]
        simp only
        rw [show (y.1 == g) = false from beq_eq_false_iff_ne.2 e2]
        rfl
      rw [hat]
      have bx := ox.1
      have by' := oy.1
      unfold itp
      rw [show wr (g - x.1) = g - x.1 from by rw [wr, wrap_id (by omega) (by omega)], show wr (y.1 - x.1) = y.1 - x.1 from by rw [wr, wrap_id (by omega) (by omega)]]
      exact ⟨itR_ok ox.2.1 oy.2.1 (by omega) (by omega) (by omega) (by omega), itR_ok ox.2.2.1 oy.2.2.1 (by omega) (by omega) (by omega) (by omega), itR_ok ox.2.2.2 oy.2.2.2 (by omega) (by omega) (by omega) (by omega)⟩
theorem atL_ok {l : List Lay} {g : Int} (h : InP l g) : sideOk (atL l g).1 ∧ sideOk (atL l g).2.1 ∧ sideOk (atL l g).2.2 := by
  have hj := h.fi_lt
  have hz : l[fi g l]? = some (l[fi g l]'hj) := by simp
  have hge := fi_ge g l _ hz
  have hb : ∀ r a b : Int × Int, sideOk a → sideOk b → inB r a b → sideOk r := by
    intro r a b ⟨p, q, s⟩ ⟨p', q', s'⟩ ⟨u, v, w⟩
    unfold mnI at u
    unfold mxI at w
    unfold sideOk
    split at u <;> split at w <;> omega
  by_cases e : (l[fi g l]'hj).1 = g
  · have := (atL_eq h.vl hz)
    rw [e] at this
    rw [this.2]
    exact (h.vl.el _ _ hz).2
  · cases hjj : fi g l with
    | zero =>
      simp only [hjj] at hz e hge
      have := h.lo _ hz
      omega
    | succ p =>
      simp only [hjj] at hz e hge
      have hw : l[p]? = some (l[p]'(by omega)) := by simp
      have hlt := fi_before g l p _ (by omega) hw
      obtain ⟨_, a, b, c⟩ := atL_btw h.vl hw hz (g := g) (by omega) hge
      have o1 := (h.vl.el _ _ hw).2
      have o2 := (h.vl.el _ _ hz).2
      exact ⟨hb _ _ _ o1.1 o2.1 a, hb _ _ _ o1.2.1 o2.2.1 b, hb _ _ _ o1.2.2 o2.2.2 c⟩
theorem liesB_ok {r a b : Int × Int} (h : inB r a b) : liesB r.1 r.2 a.1 a.2 b.1 b.2 = true := by
  obtain ⟨h1, h2, h3⟩ := h
  unfold liesB
  simp [h1, h2, h3]
theorem mnR_ok {a b : Int × Int} (ha : sideOk a) (hb : sideOk b) : mnR a b = (a.1 - b.2, a.2 - b.1) := by
  obtain ⟨p, q, s⟩ := ha
  obtain ⟨p', q', s'⟩ := hb
  unfold mnR
  rw [show wr (a.1 - b.2) = a.1 - b.2 from by rw [wr, wrap_id (by omega) (by omega)], show wr (a.2 - b.1) = a.2 - b.1 from by rw [wr, wrap_id (by omega) (by omega)]]
theorem mnR_self {a : Int × Int} (ha : sideOk a) : decide ((mnR a a).1 > 0) = false ∧ decide ((mnR a a).2 < 0) = false := by
  rw [mnR_ok ha ha]
  obtain ⟨p, q, s⟩ := ha
  exact ⟨decide_eq_false (by simp only; omega), decide_eq_false (by simp only; omega)⟩
theorem contains_ok {a b c : Int × Int} (ha : sideOk a) (hb : sideOk b) (hc : sideOk c) :
    containsB (mnR b a).1 (mnR b a).2 (mnR c b).1 (mnR c b).2 (mnR c a).1 (mnR c a).2 = true := by
  rw [mnR_ok hb ha, mnR_ok hc hb, mnR_ok hc ha]
  obtain ⟨a1, a2, a3⟩ := ha
  obtain ⟨b1, b2, b3⟩ := hb
  obtain ⟨c1, c2, c3⟩ := hc
  simp only
  have w : ∀ n : Int, -400000 ≤ n → n ≤ 400000 → withinB n (-1000000) 1000000 = true := by
    intro n h1 h2
    simp [withinB, show -1000000 ≤ n by omega, show n ≤ 1000000 by omega]
  unfold containsB
  rw [w _ (by omega) (by omega), w _ (by omega) (by omega), w _ (by omega) (by omega), w _ (by omega) (by omega)]
  simp only [cond_true]
  rw [show wr (b.1 - a.2 + (c.1 - b.2)) = b.1 - a.2 + (c.1 - b.2) from by rw [wr, wrap_id (by omega) (by omega)], show wr (b.2 - a.1 + (c.2 - b.1)) = b.2 - a.1 + (c.2 - b.1) from by rw [wr, wrap_id (by omega) (by omega)],
    show decide (b.1 - a.2 + (c.1 - b.2) ≤ c.1 - a.2) = true from decide_eq_true (by omega), cond_true]
  exact decide_eq_true (by omega)

/-! ### The walk -/
def memH (h0 h1 h2 : Int) : Mem := [(5, .cells [.i .i64 h0, .i .i64 h1, .i .i64 h2])]
def st3 (l : List Lay) (n : Nat) : Env := [(0, .sl layT l true false), (5, .pb 5 0), (7, .i .i64 (Int.ofNat n))]
def eqBx (a b : Box) : Bool := (a.1.1 == b.1.1 && (a.1.2 == b.1.2 && (a.2.1.1 == b.2.1.1 && (a.2.1.2 == b.2.1.2 && (a.2.2.1 == b.2.2.1 && (a.2.2.2 == b.2.2.2 && true))))))
def lz {R : Type} (l : List Lay) (n : Nat) (q : Int) (c : Lay → Lay → Option R) : Option R :=
  optK l[Int.toNat (Int.ofNat n)]? fun x => bif decide (0 ≤ q) then (optK l[Int.toNat q]? fun y => c x y) else none
noncomputable def body3 {R : Type} (l : List Lay) (n : Nat) (q h0 : Int) (no nx : Option R) : Option R :=
  bif cB (VL l) then (optK l[Int.toNat (Int.ofNat n)]? fun x => bif cB (InP l x.1) then (optK l[Int.toNat (Int.ofNat n)]? fun y => bif !eqBx (atL l x.1) y.2 then no else
    bif decide (q < (l.length : Int)) then (optK l[Int.toNat (Int.ofNat n)]? fun x => bif decide (x.1 ≤ h0) then (bif decide (0 ≤ q) then (optK l[Int.toNat q]? fun x => bif decide (h0 ≤ x.1) then
      (bif cB (VL l) then (bif cB (InP l h0) then
        lz l n q fun x y => bif !(!liesB (atL l h0).1.1 (atL l h0).1.2 x.2.1.1 x.2.1.2 y.2.1.1 y.2.1.2) then
          (lz l n q fun x y => bif !(!liesB (atL l h0).2.1.1 (atL l h0).2.1.2 x.2.2.1.1 x.2.2.1.2 y.2.2.1.1 y.2.2.1.2) then
            (lz l n q fun x y => bif !liesB (atL l h0).2.2.1 (atL l h0).2.2.2 x.2.2.2.1 x.2.2.2.2 y.2.2.2.1 y.2.2.2.2 then no else nx) else no) else no
      else none) else none) else nx) else none) else nx) else nx) else none) else none
theorem step3 {R : Type} (l : List Lay) (m n : Nat) (h0 h1 h2 : Int) (K : Ex → Env → Mem → Option R) :
    loopK (fun env mem k => evC (HSb spec9 100) Y0 c3_b0 0 env mem k) (m + 1) (st3 l n) (memH h0 h1 h2) K =
    bif decide (Int.ofNat n < (l.length : Int)) then body3 l n (wr (Int.ofNat n + 1)) h0 (K .ret [(4, .b false)] [])
      (loopK (fun env mem k => evC (HSb spec9 100) Y0 c3_b0 0 env mem k) m [(0, .sl layT l true false), (5, .pb 5 0), (7, .i .i64 (wr (Int.ofNat n + 1)))] (memH h0 h1 h2) K)
    else K (.exit 2) [(0, .sl layT l true false), (5, .pb 5 0), (7, .i .i64 (Int.ofNat n)), (64, .b (decide (Int.ofNat n < (l.length : Int))))] (memH h0 h1 h2) := by kernel_rfl
theorem eqBx_self (a : Box) : eqBx a a = true := by simp [eqBx]
theorem body3_ok {R : Type} {l : List Lay} (h : VL l) {n : Nat} (hn : n < l.length) (h0 : Int) (no nx : Option R) : body3 l n (Int.ofNat (n + 1)) h0 no nx = nx := by
  have hx : l[n]? = some (l[n]'hn) := by simp
  generalize l[n]'hn = x at hx
  obtain ⟨ix, ex⟩ := atL_eq h hx
  unfold body3 lz
  rw [cB_iff.2 h, show Int.toNat (Int.ofNat n) = n from rfl, show Int.toNat (Int.ofNat (n + 1)) = n + 1 from rfl, hx]
  simp only [optK, cond_true]
  rw [cB_iff.2 ix, cond_true, ex, eqBx_self]
  simp only [Bool.not_true, cond_false]
  cases c1 : decide (Int.ofNat (n + 1) < (l.length : Int)) with
  | false => rfl
  | true =>
    have hlt : n + 1 < l.length := by have := of_decide_eq_true c1; change ((n + 1 : Nat) : Int) < _ at this; omega
    have hy : l[n + 1]? = some (l[n + 1]'hlt) := by simp
    generalize l[n + 1]'hlt = y at hy
    rw [cond_true]
    cases c2 : decide (x.1 ≤ h0) with
    | false => rfl
    | true =>
      rw [cond_true, show decide (0 ≤ Int.ofNat (n + 1)) = true from rfl, cond_true, hy]
      simp only
      cases c3 : decide (h0 ≤ y.1) with
      | false => rfl
      | true =>
        obtain ⟨ih, b1, b2, b3⟩ := atL_btw h hx hy (of_decide_eq_true c2) (of_decide_eq_true c3)
        rw [cB_iff.2 ih, liesB_ok b1, liesB_ok b2, liesB_ok b3]
        rfl
def cnt3 (p q r : Int × Int) : Bool := containsB p.1 p.2 q.1 q.2 r.1 r.2
noncomputable def fin3 {R : Type} (l : List Lay) (lo mid hi : Int) (k : V → Option R) : Option R :=
  bif cB (VL l) then (bif cB (InP l lo ∧ InP l mid ∧ lo ≤ mid) then (bif cB (VL l) then (bif cB (InP l mid ∧ InP l hi ∧ mid ≤ hi) then (bif cB (VL l) then (bif cB (InP l lo ∧ InP l hi ∧ lo ≤ hi) then
    (bif cnt3 (chL l lo mid).1 (chL l mid hi).1 (chL l lo hi).1 then (bif cnt3 (chL l lo mid).2.1 (chL l mid hi).2.1 (chL l lo hi).2.1 then
      k (.b (cnt3 (chL l lo mid).2.2 (chL l mid hi).2.2 (chL l lo hi).2.2)) else k (.b false)) else k (.b false)) else none) else none) else none) else none) else none) else none
theorem end3 {R : Type} (l : List Lay) (n h0 h1 h2 : Int) (bb : Bool) (k : V → Option R) :
    c3_k0 (HSb spec9 100) Y0 0 (kF f3 k) (.exit 2) [(0, .sl layT l true false), (5, .pb 5 0), (7, .i .i64 n), (64, .b bb)] (memH h0 h1 h2) =
    bif cB (VL l) then (bif cB (InP l h0 ∧ InP l h0 ∧ h0 ≤ h0) then
      (bif !decide ((chL l h0 h0).1.1 > 0) then (bif !decide ((chL l h0 h0).1.2 < 0) then (bif !decide ((chL l h0 h0).2.1.1 > 0) then (bif !decide ((chL l h0 h0).2.1.2 < 0) then (bif !decide ((chL l h0 h0).2.2.1 > 0) then
        (bif decide ((chL l h0 h0).2.2.2 < 0) then k (.b false) else
          fin3 l (mnI h0 (mnI h1 h2)) (wr (wr (wr (wr (h0 + h1) + h2) - mnI h0 (mnI h1 h2)) - mxI h0 (mxI h1 h2))) (mxI h0 (mxI h1 h2)) k)
        else k (.b false)) else k (.b false)) else k (.b false)) else k (.b false)) else k (.b false)) else none) else none := by kernel_rfl
theorem fin3_ok {R : Type} {l : List Lay} {lo mid hi : Int} (h1 : InP l lo) (h2 : InP l mid) (h3 : InP l hi) (a : lo ≤ mid) (b : mid ≤ hi) (k : V → Option R) : fin3 l lo mid hi k = k (.b true) := by
  obtain ⟨p1, p2, p3⟩ := atL_ok h1
  obtain ⟨q1, q2, q3⟩ := atL_ok h2
  obtain ⟨r1, r2, r3⟩ := atL_ok h3
  unfold fin3 cnt3 chL
  simp only
  rw [cB_iff.2 h1.vl, cB_iff.2 ⟨h1, h2, a⟩, cB_iff.2 ⟨h2, h3, b⟩, cB_iff.2 ⟨h1, h3, Int.le_trans a b⟩, contains_ok p1 q1 r1, contains_ok p2 q2 r2, contains_ok p3 q3 r3]
  rfl
theorem mnI_eq (a b : Int) : mnI a b = min a b := by unfold mnI; split <;> omega
theorem mxI_eq (a b : Int) : mxI a b = max a b := by unfold mxI; split <;> omega
theorem mid_ok (h0 h1 h2 : Int) : (mnI h0 (mnI h1 h2) = h0 ∨ mnI h0 (mnI h1 h2) = h1 ∨ mnI h0 (mnI h1 h2) = h2) ∧ (mxI h0 (mxI h1 h2) = h0 ∨ mxI h0 (mxI h1 h2) = h1 ∨ mxI h0 (mxI h1 h2) = h2) ∧
      (h0 + h1 + h2 - mnI h0 (mnI h1 h2) - mxI h0 (mxI h1 h2) = h0 ∨ h0 + h1 + h2 - mnI h0 (mnI h1 h2) - mxI h0 (mxI h1 h2) = h1 ∨ h0 + h1 + h2 - mnI h0 (mnI h1 h2) - mxI h0 (mxI h1 h2) = h2) ∧
      mnI h0 (mnI h1 h2) ≤ h0 + h1 + h2 - mnI h0 (mnI h1 h2) - mxI h0 (mxI h1 h2) ∧ h0 + h1 + h2 - mnI h0 (mnI h1 h2) - mxI h0 (mxI h1 h2) ≤ mxI h0 (mxI h1 h2) := by
  rw [mnI_eq, mnI_eq, mxI_eq, mxI_eq]
  refine ⟨?_, ?_, ?_, ?_, ?_⟩ <;> omega
theorem run_end3 {R : Type} {l : List Lay} {h0 h1 h2 : Int} (i0 : InP l h0) (i1 : InP l h1) (i2 : InP l h2) (n : Int) (bb : Bool) (k : V → Option R) :
    c3_k0 (HSb spec9 100) Y0 0 (kF f3 k) (.exit 2) [(0, .sl layT l true false), (5, .pb 5 0), (7, .i .i64 n), (64, .b bb)] (memH h0 h1 h2) = k (.b true) := by
  obtain ⟨p1, p2, p3⟩ := atL_ok i0
  have b0 := i0.bd
  have b1 := i1.bd
  have b2 := i2.bd
  have hmid : wr (wr (wr (wr (h0 + h1) + h2) - mnI h0 (mnI h1 h2)) - mxI h0 (mxI h1 h2)) = h0 + h1 + h2 - mnI h0 (mnI h1 h2) - mxI h0 (mxI h1 h2) := by
    have m1 : 0 ≤ mnI h0 (mnI h1 h2) ∧ mnI h0 (mnI h1 h2) ≤ 20000 := by rw [mnI_eq, mnI_eq]; omega
    have m2 : 0 ≤ mxI h0 (mxI h1 h2) ∧ mxI h0 (mxI h1 h2) ≤ 20000 := by rw [mxI_eq, mxI_eq]; omega
    rw [show wr (h0 + h1) = h0 + h1 from by rw [wr, wrap_id (by omega) (by omega)], show wr (h0 + h1 + h2) = h0 + h1 + h2 from by rw [wr, wrap_id (by omega) (by omega)],
      show wr (h0 + h1 + h2 - mnI h0 (mnI h1 h2)) = h0 + h1 + h2 - mnI h0 (mnI h1 h2) from by rw [wr, wrap_id (by omega) (by omega)], wr, wrap_id (by omega) (by omega)]
  rw [end3, cB_iff.2 i0.vl, cB_iff.2 ⟨i0, i0, by omega⟩, hmid]
  unfold chL
  simp only
  rw [(mnR_self p1).1, (mnR_self p1).2, (mnR_self p2).1, (mnR_self p2).2, (mnR_self p3).1, (mnR_self p3).2]
  simp only [Bool.not_false, cond_true, cond_false]
  have ch := mid_ok h0 h1 h2
  have pick : ∀ g : Int, (g = h0 ∨ g = h1 ∨ g = h2) → InP l g := by
    rintro g (h | h | h) <;> subst h <;> assumption
  exact fin3_ok (pick _ ch.1) (pick _ ch.2.2.1) (pick _ ch.2.1) ch.2.2.2.1 ch.2.2.2.2 k
def hK {R : Type} (l : List Lay) (x : Int) (r : Int → Option R) : Option R :=
  optK l[Int.toNat 0]? fun a => bif decide (0 ≤ wr ((l.length : Int) - 1)) then (optK l[Int.toNat (wr ((l.length : Int) - 1))]? fun y => optK l[Int.toNat 0]? fun b =>
    bif decide (0 < wr (wr (y.1 - b.1) + 1)) then r (wr (a.1 + modD x (wr (wr (y.1 - b.1) + 1)))) else none) else none
def st3b (l : List Lay) (n : Int) : Env := [(0, .sl layT l true false), (3, .pb 3 0), (5, .pb 5 0), (6, .i .i64 n)]
def memB (x0 x1 x2 h0 h1 h2 : Int) : Mem := [(3, .cells [.i .i64 x0, .i .i64 x1, .i .i64 x2]), (5, .cells [.i .i64 h0, .i .i64 h1, .i .i64 h2])]
theorem head3 {R : Type} (l : List Lay) (x0 x1 x2 : Int) (k : V → Option R) : evF (HSb spec9 100) f3 [.sl layT l true false, .agg [.i .i64 x0, .i .i64 x1, .i .i64 x2]] k =
    bif !decide ((l.length : Int) > 12) then (bif (p38 l).2 != 0 then k (.b true) else
      loopK (fun env mem k => evC (HSb spec9 100) Y0 c3_b1 0 env mem k) 100 (st3b l 0) (memB x0 x1 x2 0 0 0) (c3_k1 (HSb spec9 100) Y0 0 (kF f3 k)))
    else k (.b true) := by kernel_rfl
theorem step3b0 {R : Type} (l : List Lay) (m : Nat) (x0 x1 x2 h0 h1 h2 : Int) (K : Ex → Env → Mem → Option R) :
    loopK (fun env mem k => evC (HSb spec9 100) Y0 c3_b1 0 env mem k) (m + 1) (st3b l 0) (memB x0 x1 x2 h0 h1 h2) K =
    hK l x0 fun h => loopK (fun env mem k => evC (HSb spec9 100) Y0 c3_b1 0 env mem k) m (st3b l (wr (0 + 1))) (memB x0 x1 x2 h h1 h2) K := by kernel_rfl
theorem step3b1 {R : Type} (l : List Lay) (m : Nat) (x0 x1 x2 h0 h1 h2 : Int) (K : Ex → Env → Mem → Option R) :
    loopK (fun env mem k => evC (HSb spec9 100) Y0 c3_b1 0 env mem k) (m + 1) (st3b l 1) (memB x0 x1 x2 h0 h1 h2) K =
    hK l x1 fun h => loopK (fun env mem k => evC (HSb spec9 100) Y0 c3_b1 0 env mem k) m (st3b l (wr (1 + 1))) (memB x0 x1 x2 h0 h h2) K := by kernel_rfl
theorem step3b2 {R : Type} (l : List Lay) (m : Nat) (x0 x1 x2 h0 h1 h2 : Int) (K : Ex → Env → Mem → Option R) :
    loopK (fun env mem k => evC (HSb spec9 100) Y0 c3_b1 0 env mem k) (m + 1) (st3b l 2) (memB x0 x1 x2 h0 h1 h2) K =
    hK l x2 fun h => loopK (fun env mem k => evC (HSb spec9 100) Y0 c3_b1 0 env mem k) m (st3b l (wr (2 + 1))) (memB x0 x1 x2 h0 h1 h) K := by kernel_rfl
theorem step3b3 {R : Type} (l : List Lay) (m : Nat) (x0 x1 x2 h0 h1 h2 : Int) (K : Ex → Env → Mem → Option R) :
    loopK (fun env mem k => evC (HSb spec9 100) Y0 c3_b1 0 env mem k) (m + 1) (st3b l 3) (memB x0 x1 x2 h0 h1 h2) K = K (.exit 0) [(0, .sl layT l true false), (3, .pb 3 0), (5, .pb 5 0), (6, .i .i64 3), (34, .b false)] (memB x0 x1 x2 h0 h1 h2) := by kernel_rfl
theorem next3 {R : Type} (H : Hk R) (l : List Lay) (x0 x1 x2 h0 h1 h2 : Int) (k : V → Option R) :
    c3_k1 H Y0 0 (kF f3 k) (.exit 0) [(0, .sl layT l true false), (3, .pb 3 0), (5, .pb 5 0), (6, .i .i64 3), (34, .b false)] (memB x0 x1 x2 h0 h1 h2) =
    loopK (fun env mem k => evC H Y0 c3_b0 0 env mem k) H.N (st3 l 0) (memH h0 h1 h2) (c3_k0 H Y0 0 (kF f3 k)) := by kernel_rfl
theorem hK_ok {R : Type} {l : List Lay} (h : VL l) (x : Int) (r : Int → Option R) : ∃ g, InP l g ∧ hK l x r = r g := by
  have hne := h.ne
  have hle := h.le
  have ha : l[0]? = some (l[0]'(by omega)) := by simp
  have hy : l[l.length - 1]? = some (l[l.length - 1]'(by omega)) := by simp
  generalize l[0]'(by omega) = a at ha
  generalize l[l.length - 1]'(by omega) = y at hy
  have ba := height_bd h ha
  have by' := height_bd h hy
  have hle2 := (atL_eq h ha).1.hi y hy
  refine ⟨a.1 + modD x (y.1 - a.1 + 1), ?_, ?_⟩
  · have := modD_lt (n := x) (d := y.1 - a.1 + 1) (by omega) (by omega)
    refine ⟨h, fun z hz => ?_, fun z hz => ?_⟩
    · rw [ha] at hz; have := Option.some.inj hz; subst this; omega
    · rw [hy] at hz; have := Option.some.inj hz; subst this; omega
  · unfold hK
    have hw : wr ((l.length : Int) - 1) = Int.ofNat (l.length - 1) := by rw [wr, wrap_id (by omega) (by omega)]; show _ = ((l.length - 1 : Nat) : Int); omega
    have := modD_lt (n := x) (d := y.1 - a.1 + 1) (by omega) (by omega)
    rw [hw, show Int.toNat 0 = 0 from rfl, ha, show Int.toNat (Int.ofNat (l.length - 1)) = l.length - 1 from rfl, hy, show decide (0 ≤ Int.ofNat (l.length - 1)) = true from rfl]
    simp only [optK, cond_true]
    rw [show wr (y.1 - a.1) = y.1 - a.1 from by rw [wr, wrap_id (by omega) (by omega)], show wr (y.1 - a.1 + 1) = y.1 - a.1 + 1 from by rw [wr, wrap_id (by omega) (by omega)],
      show decide (0 < y.1 - a.1 + 1) = true from decide_eq_true (by omega), cond_true, show wr (a.1 + modD x (y.1 - a.1 + 1)) = a.1 + modD x (y.1 - a.1 + 1) from by rw [wr, wrap_id (by omega) (by omega)]]
theorem run3 {R : Type} (l : List Lay) (x0 x1 x2 : Int) (k : V → Option R) : evF (HSb spec9 100) f3 [.sl layT l true false, .agg [.i .i64 x0, .i .i64 x1, .i .i64 x2]] k = k (.b true) := by
  rw [head3]
  cases c1 : decide ((l.length : Int) > 12) with
  | true => rfl
  | false =>
    cases c2 : ((p38 l).2 != 0) with
    | true => rfl
    | false =>
      have hv : VL l := (p38_ok l).1 (by simpa using c2)
      simp only [Bool.not_false, cond_true, cond_false]
      rw [step3b0]
      obtain ⟨h0, i0, e0⟩ := hK_ok hv x0 fun h => loopK (fun env mem k => evC (HSb spec9 100) Y0 c3_b1 0 env mem k) 99 (st3b l (wr (0 + 1))) (memB x0 x1 x2 h 0 0) (c3_k1 (HSb spec9 100) Y0 0 (kF f3 k))
      rw [e0, show wr (0 + 1) = 1 from by decide, step3b1]
      obtain ⟨h1, i1, e1⟩ := hK_ok hv x1 fun h => loopK (fun env mem k => evC (HSb spec9 100) Y0 c3_b1 0 env mem k) 98 (st3b l (wr (1 + 1))) (memB x0 x1 x2 h0 h 0) (c3_k1 (HSb spec9 100) Y0 0 (kF f3 k))
      rw [e1, show wr (1 + 1) = 2 from by decide, step3b2]
      obtain ⟨h2, i2, e2⟩ := hK_ok hv x2 fun h => loopK (fun env mem k => evC (HSb spec9 100) Y0 c3_b1 0 env mem k) 97 (st3b l (wr (2 + 1))) (memB x0 x1 x2 h0 h1 h) (c3_k1 (HSb spec9 100) Y0 0 (kF f3 k))
      rw [e2, show wr (2 + 1) = 3 from by decide, step3b3, next3]
      show loopK (fun env mem k => evC (HSb spec9 100) Y0 c3_b0 0 env mem k) 100 (st3 l 0) (memH h0 h1 h2) (c3_k0 (HSb spec9 100) Y0 0 (kF f3 k)) = k (.b true)
      have hle := hv.le
      have key : ∀ d n m, n + d = l.length → d < m → loopK (fun env mem k => evC (HSb spec9 100) Y0 c3_b0 0 env mem k) m (st3 l n) (memH h0 h1 h2) (c3_k0 (HSb spec9 100) Y0 0 (kF f3 k)) = k (.b true) := by
        intro d
        induction d with
        | zero =>
          intro n m hn hm
          obtain ⟨m, rfl⟩ : ∃ q, m = q + 1 := ⟨m - 1, by omega⟩
          rw [step3, show decide (Int.ofNat n < (l.length : Int)) = false from decide_eq_false (by show ¬ (n : Int) < _; omega), cond_false, run_end3 i0 i1 i2]
        | succ d ih =>
          intro n m hn hm
          obtain ⟨m, rfl⟩ : ∃ q, m = q + 1 := ⟨m - 1, by omega⟩
          rw [step3, show decide (Int.ofNat n < (l.length : Int)) = true from decide_eq_true (by show (n : Int) < _; omega), cond_true, wr_succ n (by omega), body3_ok hv (by omega)]
          exact ih (n + 1) m (by omega) (by omega)
      exact key l.length 0 100 (by omega) (by omega)
theorem between_ok (l : List Lay) (x0 x1 x2 : Int) : CallOk Try.prog 3 [.sl layT l true false, .agg [.i .i64 x0, .i .i64 x1, .i .i64 x2]] (fun u => u = .b true) :=
  (ok_b spec9_ok 100 (F := f3) (by kernel_rfl) (by rw [run3]; exact isV_self _)).1
end Go.Ge
