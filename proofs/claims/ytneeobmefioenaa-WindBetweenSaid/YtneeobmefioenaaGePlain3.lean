/- The plain law of the winds between layers: rounding outwards stays within the two layers. -/
import Derived.Test.YtneeobmefioenaaGeSpec6
namespace Go.Ge
open Go Go.RowKit Go.Proofs

theorem floorW_spec {n d : Int} (hd : 0 < d) (hd2 : d < 1000000) (hn : -100000000000 ≤ n) (hn2 : n ≤ 100000000000) :
    d * floorW n (d.toNat - 1) ≤ n ∧ n < d * floorW n (d.toNat - 1) + d := by
  unfold floorW
  have e : ofn (d.toNat - 1) = d := by show ((d.toNat - 1 + 1 : Nat) : Int) = d; omega
  rw [e]
  have h0 := Int.mul_tdiv_add_tmod n d
  have h1 := Int.tmod_lt_of_pos n hd
  have h2 : -d < n.tmod d := by
    have := Int.tmod_lt_of_pos (-n) hd
    rw [Int.neg_tmod] at this
    omega
  have hq : -200000000000 ≤ n.tdiv d ∧ n.tdiv d ≤ 200000000000 := by
    constructor
    · rcases Int.lt_or_le (n.tdiv d) (-200000000000) with h | h
      · have : 0 ≤ (d - 1) * (-200000000000 - n.tdiv d) := Int.mul_nonneg (by omega) (by omega)
        rw [Int.sub_mul, Int.mul_sub, Int.one_mul] at this
        omega
      · exact h
    · rcases Int.lt_or_le 200000000000 (n.tdiv d) with h | h
      · have : 0 ≤ (d - 1) * (n.tdiv d - 200000000000) := Int.mul_nonneg (by omega) (by omega)
        rw [Int.sub_mul, Int.mul_sub, Int.one_mul] at this
        omega
      · exact h
  have hw : wr (n.tdiv d) = n.tdiv d := by rw [wr, wrap_id (by omega) (by omega)]
  rw [hw]
  cases hc : decide (n.tmod d < 0) with
  | true =>
    have := of_decide_eq_true hc
    rw [cond_true, wr, wrap_id (by omega) (by omega), Int.mul_sub, Int.mul_one]
    omega
  | false =>
    have := of_decide_eq_false hc
    rw [cond_false]
    omega
theorem floorW_bd {n d : Int} (hd : 0 < d) (hd2 : d < 1000000) (hn : -100000000000 ≤ n) (hn2 : n ≤ 100000000000) :
    -200000000000 ≤ floorW n (d.toNat - 1) ∧ floorW n (d.toNat - 1) ≤ 200000000000 := by
  obtain ⟨h1, h2⟩ := floorW_spec hd hd2 hn hn2
  generalize floorW n (d.toNat - 1) = q at h1 h2
  constructor
  · rcases Int.lt_or_le q (-200000000000) with h | h
    · have : 0 ≤ (d - 1) * (-200000000000 - q) := Int.mul_nonneg (by omega) (by omega)
      rw [Int.sub_mul, Int.mul_sub, Int.one_mul] at this
      omega
    · exact h
  · rcases Int.lt_or_le 200000000000 q with h | h
    · have : 0 ≤ (d - 1) * (q - 200000000000) := Int.mul_nonneg (by omega) (by omega)
      rw [Int.sub_mul, Int.mul_sub, Int.one_mul] at this
      omega
    · exact h
theorem prod_bd {c t : Int} (h1 : -200000 ≤ c) (h2 : c ≤ 200000) (h3 : 0 ≤ t) (h4 : t ≤ 20000) : -4000000000 ≤ c * t ∧ c * t ≤ 4000000000 := by
  have a : 0 ≤ (200000 - c) * t := Int.mul_nonneg (by omega) h3
  have b : 0 ≤ (c + 200000) * t := Int.mul_nonneg (by omega) h3
  rw [Int.sub_mul] at a
  rw [Int.add_mul] at b
  omega
/-- A part of the way from a to b, rounded down, and up. -/
theorem btw_lo {a b t d : Int} (ha : -100000 ≤ a) (ha2 : a ≤ 100000) (hb : -100000 ≤ b) (hb2 : b ≤ 100000) (ht : 0 ≤ t) (htd : t ≤ d) (hd : 0 < d) (hd2 : d ≤ 20000) :
    ∃ q, btwLo a b t d = a + q ∧ d * q ≤ (b - a) * t ∧ (b - a) * t < d * q + d ∧ mnI a b ≤ a + q ∧ a + q ≤ mxI a b := by
  have hp := prod_bd (c := b - a) (t := t) (by omega) (by omega) ht (by omega)
  obtain ⟨h1, h2⟩ := floorW_spec (n := (b - a) * t) hd (by omega) (by omega) (by omega)
  have h3 := floorW_bd (n := (b - a) * t) hd (by omega) (by omega) (by omega)
  unfold btwLo
  rw [show wr (b - a) = b - a from by rw [wr, wrap_id (by omega) (by omega)], show wr ((b - a) * t) = (b - a) * t from by rw [wr, wrap_id (by omega) (by omega)]]
  generalize floorW ((b - a) * t) (d.toNat - 1) = q at h1 h2 h3
  rw [show wr (a + q) = a + q from by rw [wr, wrap_id (by omega) (by omega)]]
  refine ⟨q, rfl, h1, h2, ?_⟩
  have ht2 : 0 ≤ d - t := by omega
  unfold mnI mxI
  rcases Int.lt_or_le b a with h | h
  · have u : 0 ≤ (a - b) * t := Int.mul_nonneg (by omega) ht
    have w : 0 ≤ (a - b) * (d - t) := Int.mul_nonneg (by omega) ht2
    have q1 : q ≤ 0 := by
      rcases Int.lt_or_le 0 q with hq | hq
      · have : 0 ≤ d * (q - 1) := Int.mul_nonneg (by omega) (by omega)
        rw [Int.mul_sub] at this
        rw [Int.sub_mul] at u h1
        omega
      · exact hq
    have q2 : b - a ≤ q := by
      rcases Int.lt_or_le q (b - a) with hq | hq
      · have : 0 ≤ d * (b - a - q - 1) := Int.mul_nonneg (by omega) (by omega)
        rw [Int.mul_sub, Int.mul_sub, Int.mul_sub] at this
        rw [Int.sub_mul, Int.mul_sub, Int.mul_sub, Int.mul_comm a d, Int.mul_comm b d] at w
        rw [Int.sub_mul] at u h2
        omega
      · exact hq
    rw [if_pos (by omega), if_neg (by omega)]
    omega
  · have u : 0 ≤ (b - a) * t := Int.mul_nonneg (by omega) ht
    have w : 0 ≤ (b - a) * (d - t) := Int.mul_nonneg (by omega) ht2
    have q1 : 0 ≤ q := by
      rcases Int.lt_or_le q 0 with hq | hq
      · have : 0 ≤ d * (-q - 1) := Int.mul_nonneg (by omega) (by omega)
        rw [Int.mul_sub, Int.mul_neg] at this
        omega
      · exact hq
    have q2 : q ≤ b - a := by
      rcases Int.lt_or_le (b - a) q with hq | hq
      · have : 0 ≤ d * (q - (b - a) - 1) := Int.mul_nonneg (by omega) (by omega)
        rw [Int.mul_sub, Int.mul_sub, Int.mul_sub] at this
        rw [Int.sub_mul, Int.mul_sub, Int.mul_sub, Int.mul_comm a d, Int.mul_comm b d] at w
        rw [Int.sub_mul] at u h1
        omega
      · exact hq
    rw [if_neg (by omega)]
    split <;> omega
theorem btw_hi {a b t d : Int} (ha : -100000 ≤ a) (ha2 : a ≤ 100000) (hb : -100000 ≤ b) (hb2 : b ≤ 100000) (ht : 0 ≤ t) (htd : t ≤ d) (hd : 0 < d) (hd2 : d ≤ 20000) :
    ∃ q, btwHi a b t d = a + q ∧ (b - a) * t ≤ d * q ∧ mnI a b ≤ a + q ∧ a + q ≤ mxI a b := by
  obtain ⟨q, h1, h2, h3, h4, h5⟩ := btw_lo (a := -a) (b := -b) (t := t) (d := d) (by omega) (by omega) (by omega) (by omega) ht htd hd hd2
  have hp := prod_bd (c := b - a) (t := t) (by omega) (by omega) ht (by omega)
  have hp2 : (-b - -a) * t = -((b - a) * t) := by rw [← Int.neg_mul]; congr 1; omega
  have hq := floorW_bd (n := -((b - a) * t)) hd (by omega) (by omega) (by omega)
  refine ⟨-q, ?_, ?_, ?_, ?_⟩
  · unfold btwHi ceilW
    unfold btwLo at h1
    rw [show wr (-b - -a) = -b - -a from by rw [wr, wrap_id (by omega) (by omega)], hp2, show wr (-((b - a) * t)) = -((b - a) * t) from by rw [wr, wrap_id (by omega) (by omega)]] at h1
    rw [show wr (b - a) = b - a from by rw [wr, wrap_id (by omega) (by omega)], show wr ((b - a) * t) = (b - a) * t from by rw [wr, wrap_id (by omega) (by omega)],
      show wr (0 - (b - a) * t) = -((b - a) * t) from by rw [wr, wrap_id (by omega) (by omega)]; omega]
    generalize floorW (-((b - a) * t)) (d.toNat - 1) = p at h1 hq
    rw [wr, wrap_id (by omega) (by omega)] at h1
    rw [show wr (0 - p) = -p from by rw [wr, wrap_id (by omega) (by omega)]; omega, wr, wrap_id (by omega) (by omega)]
    omega
  · rw [hp2] at h2
    rw [Int.mul_neg]
    omega
  · unfold mnI
    unfold mxI at h5
    split at h5 <;> split <;> omega
  · unfold mxI
    unfold mnI at h4
    split at h4 <;> split <;> omega
theorem itR_ok {a b : Int × Int} {t d : Int} (ha : sideOk a) (hb : sideOk b) (ht : 0 ≤ t) (htd : t ≤ d) (hd : 0 < d) (hd2 : d ≤ 20000) :
    (mnI a.1 b.1 ≤ (itR a b t d).1 ∧ (itR a b t d).1 ≤ (itR a b t d).2 ∧ (itR a b t d).2 ≤ mxI a.2 b.2) := by
  obtain ⟨a1, a2, a3⟩ := ha
  obtain ⟨b1, b2, b3⟩ := hb
  obtain ⟨q, e, h1, h2, h3, h4⟩ := btw_lo (a := a.1) (b := b.1) (t := t) (d := d) a1 (by omega) b1 (by omega) ht htd hd hd2
  obtain ⟨p, e', h1', h3', h4'⟩ := btw_hi (a := a.2) (b := b.2) (t := t) (d := d) (by omega) a3 (by omega) b3 ht htd hd hd2
  unfold itR
  simp only
  rw [e, e']
  refine ⟨h3, ?_, h4'⟩
  have u : 0 ≤ (a.2 - a.1) * (d - t) := Int.mul_nonneg (by omega) (by omega)
  have w : 0 ≤ (b.2 - b.1) * t := Int.mul_nonneg (by omega) ht
  rcases Int.lt_or_le (a.2 + p) (a.1 + q) with hq | hq
  · have : 0 ≤ d * (a.1 + q - (a.2 + p) - 1) := Int.mul_nonneg (by omega) (by omega)
    rw [Int.mul_sub, Int.mul_sub, Int.mul_add, Int.mul_add] at this
    rw [Int.sub_mul, Int.mul_sub, Int.mul_sub, Int.mul_comm a.2 d, Int.mul_comm a.1 d] at u
    rw [Int.sub_mul] at w h1 h1'
    omega
  · exact hq
end Go.Ge
