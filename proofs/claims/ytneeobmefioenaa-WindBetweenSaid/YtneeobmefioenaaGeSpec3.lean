/- Valid profiles: what the reference and the program answer on them. -/
import Derived.Test.YtneeobmefioenaaGeSpec2
namespace Go.Ge
open Go Go.RowKit Go.Proofs

/-- A loop that counts up. -/
theorem loop_up {R : Type} (body : Env → Mem → (Ex → Env → Mem → Option R) → Option R) (st : Nat → Env) (K : Ex → Env → Mem → Option R) (A : Nat → Option R) (L : Nat)
    (hstep : ∀ n m, n < L → loopK body (m + 1) (st n) [] K = A n ∨ (loopK body (m + 1) (st n) [] K = loopK body m (st (n + 1)) [] K ∧ A n = A (n + 1)))
    (hend : ∀ m, loopK body (m + 1) (st L) [] K = A L) : ∀ d n m, n + d = L → d < m → loopK body m (st n) [] K = A n
  | 0, n, m + 1, hn, _ => by
    have : n = L := by omega
    subst this
    exact hend m
  | d + 1, n, m + 1, hn, hm => by
    rcases hstep n m (by omega) with h | ⟨h, ha⟩
    · exact h
    · rw [h, ha]
      exact loop_up body st K A L hstep hend d (n + 1) m (by omega) (by omega)
  | _, _, 0, _, hm => by omega

abbrev Lay : Type := Int × (Int × Int) × (Int × Int) × (Int × Int)
def sideOk (r : Int × Int) : Prop := -100000 ≤ r.1 ∧ r.1 ≤ r.2 ∧ r.2 ≤ 100000
def okLay (x : Lay) : Prop := (0 ≤ x.1 ∧ x.1 ≤ 20000) ∧ sideOk x.2.1 ∧ sideOk x.2.2.1 ∧ sideOk x.2.2.2
structure VL (l : List Lay) : Prop where
  ne : 0 < l.length
  le : l.length ≤ 12
  el : ∀ (n : Nat) x, l[n]? = some x → okLay x
  inc : ∀ (n : Nat) x y, l[n]? = some x → l[n + 1]? = some y → x.1 < y.1

/-! ### The reference's check -/
def sideE {α : Type} (a b : Int) (bad : Int → α) (ok : α) : α :=
  bif !(!withinB a (-100000) 100000) then (bif !withinB b (-100000) 100000 then bad 2 else (bif decide (a > b) then bad 9 else ok)) else bad 2
def last38 {α : Type} (l : List Lay) (n : Nat) (bad : Int → Option α) (ok : Option α) : Option α :=
  bif decide (Int.ofNat n > 0) then (optK l[n]? fun x => bif decide (0 ≤ wr (Int.ofNat n - 1)) then (optK l[Int.toNat (wr (Int.ofNat n - 1))]? fun y => bif decide (x.1 ≤ y.1) then bad 9 else ok) else none) else ok
def e38 {α : Type} (l : List Lay) (n : Nat) (bad : Int → Option α) (ok : Option α) : Option α :=
  optK l[n]? fun x => bif heightE x.1 != 0 then bad (heightE x.1) else optK l[n]? fun x => sideE x.2.1.1 x.2.1.2 bad (sideE x.2.2.1.1 x.2.2.1.2 bad (sideE x.2.2.2.1 x.2.2.2.2 bad (last38 l n bad ok)))
def st38 (l : List Lay) (n : Nat) : Env := [(0, .sl layT l true false), (4, .i .i64 (Int.ofNat n))]
theorem step38 {R : Type} (l : List Lay) (m n : Nat) (K : Ex → Env → Mem → Option R) :
    loopK (fun env mem k => evC (HSp spec2 100) Y0 c38_b0 0 env mem k) (m + 1) (st38 l n) [] K =
    bif decide (Int.ofNat n < (l.length : Int)) then e38 l n (fun e => K .ret [(2, .i .i64 (Int.ofNat n)), (3, .i .i64 e)] [])
      (loopK (fun env mem k => evC (HSp spec2 100) Y0 c38_b0 0 env mem k) m [(0, .sl layT l true false), (4, .i .i64 (wr (Int.ofNat n + 1)))] [] K)
    else K (.exit 0) [(0, .sl layT l true false), (4, .i .i64 (Int.ofNat n)), (17, .b (decide (Int.ofNat n < (l.length : Int))))] [] := by kernel_rfl
theorem head38 {R : Type} (l : List Lay) (k : V → Option R) : evF (HSp spec2 100) f38 [.sl layT l true false] k =
    bif Int.ofNat l.length == 0 then k (.tup [.i .i64 0, .i .i64 10]) else bif decide (Int.ofNat l.length > 12) then k (.tup [.i .i64 0, .i .i64 8]) else
    loopK (fun env mem k => evC (HSp spec2 100) Y0 c38_b0 0 env mem k) 100 (st38 l 0) [] (c38_k0 (HSp spec2 100) Y0 0 (kF f38 k)) := by kernel_rfl
theorem out38 {R : Type} (H : Hk R) (x y : Int) (k : V → Option R) : c38_k0 H Y0 0 (kF f38 k) .ret [(2, .i .i64 x), (3, .i .i64 y)] [] = k (.tup [.i .i64 x, .i .i64 y]) := by kernel_rfl
theorem end38 {R : Type} (H : Hk R) (u v w : V) (k : V → Option R) : c38_k0 H Y0 0 (kF f38 k) (.exit 0) [(0, u), (4, v), (17, w)] [] = k (.tup [.i .i64 0, .i .i64 0]) := by kernel_rfl
theorem sideE_cases (r : Int × Int) : (∃ e, e ≠ 0 ∧ ∀ (α : Type) (bad : Int → α) ok, sideE r.1 r.2 bad ok = bad e) ∨ (sideOk r ∧ ∀ (α : Type) (bad : Int → α) ok, sideE r.1 r.2 bad ok = ok) := by
  unfold sideE sideOk withinB
  by_cases h1 : -100000 ≤ r.1
  · by_cases h2 : r.1 ≤ 100000
    · by_cases h3 : -100000 ≤ r.2
      · by_cases h4 : r.2 ≤ 100000
        · by_cases h5 : r.1 > r.2
          · exact .inl ⟨9, by decide, fun _ _ _ => by simp [h1, h2, h3, h4, h5]⟩
          · exact .inr ⟨by omega, fun _ _ _ => by simp [h1, h2, h3, h4, h5]⟩
        · exact .inl ⟨2, by decide, fun _ _ _ => by simp [h1, h2, h3, h4]⟩
      · exact .inl ⟨2, by decide, fun _ _ _ => by simp [h1, h2, h3]⟩
    · exact .inl ⟨2, by decide, fun _ _ _ => by simp [h1, h2]⟩
  · exact .inl ⟨2, by decide, fun _ _ _ => by simp [h1]⟩
theorem e38_cases (l : List Lay) (n : Nat) (x : Lay) (hx : l[n]? = some x) (hn : l.length ≤ 12) :
    (∃ e, e ≠ 0 ∧ ∀ (α : Type) (bad : Int → Option α) ok, e38 l n bad ok = bad e) ∨
    ((okLay x ∧ ∀ m y, n = m + 1 → l[m]? = some y → y.1 < x.1) ∧ ∀ (α : Type) (bad : Int → Option α) ok, e38 l n bad ok = ok) := by
  unfold e38
  simp only [hx, optK]
  by_cases hh : heightE x.1 = 0
  · have hh1 : (heightE x.1 != 0) = false := by simp [hh]
    have hh2 : 0 ≤ x.1 ∧ x.1 ≤ 20000 := by
      unfold heightE errIf withinB at hh
      by_cases h1 : 0 ≤ x.1
      · by_cases h2 : x.1 ≤ 20000
        · exact ⟨h1, h2⟩
        · simp [h1, h2] at hh
      · simp [h1] at hh
    simp only [hh1, cond_false]
    rcases sideE_cases x.2.1 with ⟨e, he, h⟩ | ⟨o1, h⟩
    · exact .inl ⟨e, he, fun α bad ok => h _ _ _⟩
    simp only [h]
    rcases sideE_cases x.2.2.1 with ⟨e, he, h⟩ | ⟨o2, h⟩
    · exact .inl ⟨e, he, fun α bad ok => h _ _ _⟩
    simp only [h]
    rcases sideE_cases x.2.2.2 with ⟨e, he, h⟩ | ⟨o3, h⟩
    · exact .inl ⟨e, he, fun α bad ok => h _ _ _⟩
    simp only [h]
    cases n with
    | zero => exact .inr ⟨⟨⟨hh2, o1, o2, o3⟩, by simp⟩, fun _ _ _ => rfl⟩
    | succ p =>
      have hp : p + 1 < l.length := by
        rcases Nat.lt_or_ge (p + 1) l.length with h | h
        · exact h
        · simp [List.getElem?_eq_none h] at hx
      have hw : wr (Int.ofNat (p + 1) - 1) = Int.ofNat p := by
        rw [wr, wrap_id (by simp <;> omega) (by simp <;> omega)]
        simp
      have h0 : decide (Int.ofNat (p + 1) > 0) = true := decide_eq_true (by show (0 : Int) < ((p + 1 : Nat) : Int); omega)
      have h1 : decide (0 ≤ Int.ofNat p) = true := decide_eq_true (by show (0 : Int) ≤ (p : Int); omega)
      have hy : l[p]? = some l[p] := by simp
      have hL : ∀ (α : Type) (bad : Int → Option α) ok, last38 l (p + 1) bad ok = bif decide (x.1 ≤ (l[p]).1) then bad 9 else ok := by
        intro α bad ok
        unfold last38
        rw [h0, cond_true, hx]
        simp only [optK]
        rw [hw, h1, cond_true, show Int.toNat (Int.ofNat p) = p from rfl, hy]
      simp only [hL]
      by_cases hc : x.1 ≤ (l[p]).1
      · exact .inl ⟨9, by decide, fun _ _ _ => by simp [hc]⟩
      · refine .inr ⟨⟨⟨hh2, o1, o2, o3⟩, ?_⟩, fun _ _ _ => by simp [hc]⟩
        intro m y hm hy'
        obtain rfl : p = m := by omega
        rw [hy] at hy'
        have e := Option.some.inj hy'
        rw [← e]
        exact Int.not_le.mp hc
  · have hh1 : (heightE x.1 != 0) = true := by simp [hh]
    exact .inl ⟨_, hh, fun _ _ _ => by rw [hh1]; rfl⟩
theorem wr_succ (n : Nat) (h : n < 1000) : wr (Int.ofNat n + 1) = Int.ofNat (n + 1) := by
  rw [wr, wrap_id (by simp <;> omega) (by simp <;> omega)]
  simp
theorem loop38 (l : List Lay) (hl : l.length ≤ 12) (h0 : 0 < l.length) : ∀ d n, n + d = l.length →
    (∀ i x, i < n → l[i]? = some x → okLay x) → (∀ i x y, i + 1 < n → l[i]? = some x → l[i + 1]? = some y → x.1 < y.1) →
    ∃ p : Int × Int, (p.2 = 0 → VL l) ∧ ∀ (R : Type) (k : V → Option R) (m : Nat), d < m →
      loopK (fun env mem k => evC (HSp spec2 100) Y0 c38_b0 0 env mem k) m (st38 l n) [] (c38_k0 (HSp spec2 100) Y0 0 (kF f38 k)) = k (.tup [.i .i64 p.1, .i .i64 p.2])
  | 0, n, hn, ho, hi => by
    obtain rfl : n = l.length := by omega
    refine ⟨(0, 0), fun _ => ⟨h0, hl, fun i x hx => ?_, fun i x y hx hy => ?_⟩, ?_⟩
    · refine ho i x ?_ hx
      rcases Nat.lt_or_ge i l.length with h | h
      · exact h
      · simp [List.getElem?_eq_none h] at hx
    · refine hi i x y ?_ hx hy
      rcases Nat.lt_or_ge (i + 1) l.length with h | h
      · exact h
      · simp [List.getElem?_eq_none h] at hy
    · intro R k m hm
      obtain ⟨m, rfl⟩ : ∃ q, m = q + 1 := ⟨m - 1, by omega⟩
      rw [step38]
      have : decide (Int.ofNat l.length < (l.length : Int)) = false := by simp
      rw [this, cond_false, end38]
  | d + 1, n, hn, ho, hi => by
    have hlt : n < l.length := by omega
    have hx : l[n]? = some l[n] := by simp
    have hd : decide (Int.ofNat n < (l.length : Int)) = true := by simp; omega
    rcases e38_cases l n _ hx hl with ⟨e, he, h⟩ | ⟨⟨o, oi⟩, h⟩
    · refine ⟨(Int.ofNat n, e), fun h => absurd h he, ?_⟩
      intro R k m hm
      obtain ⟨m, rfl⟩ : ∃ q, m = q + 1 := ⟨m - 1, by omega⟩
      rw [step38, hd, cond_true, h, out38]
    · obtain ⟨p, hp, hk⟩ := loop38 l hl h0 d (n + 1) (by omega)
        (fun i x hi' hx' => by
          rcases Nat.lt_or_ge i n with h | h
          · exact ho i x h hx'
          · obtain rfl : i = n := by omega
            rw [hx] at hx'; obtain rfl := Option.some.inj hx'
            exact o)
        (fun i x y hi' hx' hy' => by
          rcases Nat.lt_or_ge (i + 1) n with h | h
          · exact hi i x y h hx' hy'
          · obtain rfl : i + 1 = n := by omega
            rw [hx] at hy'; obtain rfl := Option.some.inj hy'
            exact oi i x rfl hx')
      refine ⟨p, hp, ?_⟩
      intro R k m hm
      obtain ⟨m, rfl⟩ : ∃ q, m = q + 1 := ⟨m - 1, by omega⟩
      rw [step38, hd, cond_true, h, wr_succ n (by omega)]
      exact hk R k m (by omega)
def H38 (l : List Lay) (p : Int × Int) : Prop := (p.2 = 0 → VL l) ∧ ∀ (R : Type) (k : V → Option R), evF (HSp spec2 100) f38 [.sl layT l true false] k = k (.tup [.i .i64 p.1, .i .i64 p.2])
theorem ev38 (l : List Lay) : ∃ p : Int × Int, H38 l p := by
  by_cases h0 : l.length = 0
  · exact ⟨(0, 10), by simp, fun R k => by rw [head38, show (Int.ofNat l.length == 0) = true from by rw [h0]; rfl]; rfl⟩
  · by_cases h1 : l.length > 12
    · refine ⟨(0, 8), by simp, fun R k => ?_⟩
      rw [head38]
      have a : (Int.ofNat l.length == 0) = false := by rw [beq_eq_false_iff_ne]; show (l.length : Int) ≠ 0; omega
      have b : decide (Int.ofNat l.length > 12) = true := decide_eq_true (by show (12 : Int) < (l.length : Int); omega)
      rw [a, b]; rfl
    · obtain ⟨p, hp, hk⟩ := loop38 l (by omega) (by omega) l.length 0 (by omega) (by omega) (by omega)
      refine ⟨p, hp, fun R k => ?_⟩
      rw [head38]
      have a : (Int.ofNat l.length == 0) = false := by rw [beq_eq_false_iff_ne]; show (l.length : Int) ≠ 0; omega
      have b : decide (Int.ofNat l.length > 12) = false := decide_eq_false (by show ¬ (12 : Int) < (l.length : Int); omega)
      rw [a, b]
      exact hk R k 100 (by omega)
noncomputable def p38 (l : List Lay) : Int × Int := Classical.choose (ev38 l)
theorem p38_ok (l : List Lay) : H38 l (p38 l) := Classical.choose_spec (ev38 l)
noncomputable def validB (l : List Lay) : Bool := @decide (VL l) (Classical.propDecidable _)
theorem validB_iff {l : List Lay} : validB l = true ↔ VL l := by unfold validB; exact @decide_eq_true_iff _ (Classical.propDecidable _)
end Go.Ge
