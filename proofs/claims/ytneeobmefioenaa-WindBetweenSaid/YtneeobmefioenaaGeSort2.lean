/- The sort's contract. -/
import Derived.Test.YtneeobmefioenaaGeSort
import Derived.Test.YtneeobmefioenaaGeGrow
namespace Go.Ge
open Go Go.RowKit Go.Proofs Go.Shelf Go.Sort

theorem wrap_id {n : Int} (h1 : -9223372036854775808 ≤ n) (h2 : n < 9223372036854775808) : IntKind.i64.wrap n = n := by
  have : IntKind.i64.wrap n = (n + 9223372036854775808) % 18446744073709551616 - 9223372036854775808 := by simp [IntKind.wrap, IntKind.bits, IntKind.signed]; omega
  omega
theorem below_grow {w w' : World} (h : Below w.heap.size w w') : ∃ q os', w' = grow (w.drewN q) os' := by
  refine ⟨w'.drawn - w.drawn, w'.heap.extract w.heap.size w'.heap.size, ?_⟩
  obtain ⟨h1, h2, ⟨h3, h4⟩, h5, h6⟩ := h
  have hh : w'.heap = w.heap ++ w'.heap.extract w.heap.size w'.heap.size := by
    apply Array.ext_getElem?
    intro k
    by_cases hk : k < w.heap.size
    · rw [h6 k hk, Array.getElem?_append_left hk]
    · rw [Array.getElem?_append_right (by omega), Array.getElem?_extract]
      split
      · congr 1; omega
      · exact Array.getElem?_eq_none (by omega)
  cases w'
  simp only at h1 h2 h3 h4 hh
  subst h1 h2 h3
  simp only [grow, World.drewN]
  congr 1
  omega
def WOk : Type := { x : T windT // windOk x = true }
instance : Inhabited WOk := ⟨⟨((0 : Int), ((0 : Int), ((0 : Int), (1 : Int)))), by decide⟩⟩
def wEnc (x : WOk) : List Value := [.int .i64 x.1.1, .int .i64 x.1.2.1, .int .i64 x.1.2.2.1, .int .i64 x.1.2.2.2]
theorem wok (x : WOk) : 0 < x.1.2.2.2 ∧ x.1.2.2.2 ≤ 1000000000 ∧ -1000000000 ≤ x.1.1 ∧ x.1.1 ≤ 1000000000 ∧ -1000000000 ≤ x.1.2.1 ∧ x.1.2.1 ≤ 1000000000 ∧ -1000000000 ≤ x.1.2.2.1 ∧ x.1.2.2.1 ≤ 1000000000 := by
  have := x.2
  simp only [windOk, Bool.and_eq_true, decide_eq_true_eq] at this
  obtain ⟨⟨⟨⟨⟨⟨⟨a, b⟩, c⟩, d⟩, e⟩, f⟩, g⟩, h⟩ := this
  exact ⟨a, b, c, d, e, f, g, h⟩
theorem prod_le {a b : Int} (h1 : -1000000000 ≤ a) (h2 : a ≤ 1000000000) (h3 : 0 < b) (h4 : b ≤ 1000000000) : -1000000000000000000 ≤ a * b ∧ a * b ≤ 1000000000000000000 := by
  have e1 : a * b ≤ 1000000000 * b := Int.mul_le_mul_of_nonneg_right h2 (by omega)
  have e2 : -1000000000 * b ≤ a * b := Int.mul_le_mul_of_nonneg_right h1 (by omega)
  omega
theorem lessV_ok {a b c d : Int} (a1 : -1000000000 ≤ a) (a2 : a ≤ 1000000000) (b1 : 0 < b) (b2 : b ≤ 1000000000) (c1 : -1000000000 ≤ c) (c2 : c ≤ 1000000000) (d1 : 0 < d) (d2 : d ≤ 1000000000) : lessV a b c d = a * d - c * b := by
  have h1 := prod_le a1 a2 d1 d2
  have h2 := prod_le c1 c2 b1 b2
  unfold lessV
  rw [wrap_id (n := a * d) (by omega) (by omega), wrap_id (n := c * b) (by omega) (by omega), wrap_id (n := a * d - c * b) (by omega) (by omega)]
theorem cmp3 (p1 q1 p2 q2 p3 q3 : Int) : decide ((bif p1 - q1 != 0 then p1 - q1 else bif p2 - q2 != 0 then p2 - q2 else bif p3 - q3 != 0 then p3 - q3 else 0) < 0) =
    (decide (p1 < q1) || decide (p1 = q1) && (decide (p2 < q2) || decide (p2 = q2) && decide (p3 < q3))) := by
  by_cases h1 : p1 - q1 = 0
  · have e1 : p1 = q1 := by omega
    subst e1
    by_cases h2 : p2 - q2 = 0
    · have e2 : p2 = q2 := by omega
      subst e2
      by_cases h3 : p3 - q3 = 0
      · have e3 : p3 = q3 := by omega
        subst e3
        simp
      · have h4 : (p3 - q3 != 0) = true := by simpa using h3
        simp [h4]
        omega
    · have h4 : (p2 - q2 != 0) = true := by simpa using h2
      have e2 : ¬ p2 = q2 := by omega
      simp [h4, e2]
      omega
  · have h4 : (p1 - q1 != 0) = true := by simpa using h1
    have e2 : ¬ p1 = q1 := by omega
    simp [h4, e2]
    omega
def cfO (x y : WOk) : Int := cfW x.1 y.1
theorem cfO_lt (x y : WOk) : ltOf cfO x y = windLt x.1 y.1 := by
  obtain ⟨x1, x2, x3, x4, x5, x6, x7, x8⟩ := wok x
  obtain ⟨y1, y2, y3, y4, y5, y6, y7, y8⟩ := wok y
  unfold ltOf cfO cfW windLt fracLt fracEq
  rw [lessV_ok x3 x4 x1 x2 y3 y4 y1 y2, lessV_ok x5 x6 x1 x2 y5 y6 y1 y2, lessV_ok x7 x8 x1 x2 y7 y8 y1 y2]
  exact cmp3 _ _ _ _ _ _
/-- a / b before c / d, before e / f. -/
theorem frac_trans {a b c d e f : Int} (hb : 0 < b) (hd : 0 < d) (hf : 0 < f) (h1 : a * d ≤ c * b) (h2 : c * f ≤ e * d) : a * f ≤ e * b := by
  have h3 : (a * d) * f ≤ (c * b) * f := Int.mul_le_mul_of_nonneg_right h1 (by omega)
  have h4 : (c * f) * b ≤ (e * d) * b := Int.mul_le_mul_of_nonneg_right h2 (by omega)
  have e1 : (a * d) * f = (a * f) * d := by rw [Int.mul_assoc, Int.mul_comm d f, ← Int.mul_assoc]
  have e2 : (c * b) * f = (c * f) * b := by rw [Int.mul_assoc, Int.mul_comm b f, ← Int.mul_assoc]
  have e3 : (e * d) * b = (e * b) * d := by rw [Int.mul_assoc, Int.mul_comm d b, ← Int.mul_assoc]
  exact Int.le_of_mul_le_mul_right (a := d) (by omega) hd
theorem frac_eq {a b c d e f : Int} (hb : 0 < b) (hd : 0 < d) (hf : 0 < f) (h1 : a * d = c * b) (h2 : c * f = e * d) : a * f = e * b :=
  Int.le_antisymm (frac_trans (c := c) (d := d) hb hd hf (by omega) (by omega)) (frac_trans (c := c) (d := d) hf hd hb (by omega) (by omega))
theorem frac_trans_lt {a b c d e f : Int} (hb : 0 < b) (hd : 0 < d) (hf : 0 < f) (h1 : a * d < c * b) (h2 : c * f ≤ e * d) : a * f < e * b := by
  have h3 : (a * d) * f < (c * b) * f := Int.mul_lt_mul_of_pos_right h1 hf
  have h4 : (c * f) * b ≤ (e * d) * b := Int.mul_le_mul_of_nonneg_right h2 (by omega)
  have e1 : (a * d) * f = (a * f) * d := by rw [Int.mul_assoc, Int.mul_comm d f, ← Int.mul_assoc]
  have e2 : (c * b) * f = (c * f) * b := by rw [Int.mul_assoc, Int.mul_comm b f, ← Int.mul_assoc]
  have e3 : (e * d) * b = (e * b) * d := by rw [Int.mul_assoc, Int.mul_comm d b, ← Int.mul_assoc]
  exact Int.lt_of_mul_lt_mul_right (a := d) (by omega) (by omega)
theorem frac_trans_lt' {a b c d e f : Int} (hb : 0 < b) (hd : 0 < d) (hf : 0 < f) (h1 : a * d ≤ c * b) (h2 : c * f < e * d) : a * f < e * b := by
  have h3 : (a * d) * f ≤ (c * b) * f := Int.mul_le_mul_of_nonneg_right h1 (by omega)
  have h4 : (c * f) * b < (e * d) * b := Int.mul_lt_mul_of_pos_right h2 hb
  have e1 : (a * d) * f = (a * f) * d := by rw [Int.mul_assoc, Int.mul_comm d f, ← Int.mul_assoc]
  have e2 : (c * b) * f = (c * f) * b := by rw [Int.mul_assoc, Int.mul_comm b f, ← Int.mul_assoc]
  have e3 : (e * d) * b = (e * b) * d := by rw [Int.mul_assoc, Int.mul_comm d b, ← Int.mul_assoc]
  exact Int.lt_of_mul_lt_mul_right (a := d) (by omega) (by omega)
/-- The order of winds, by their fractions. -/
def lexLt (a1 a2 a3 b c1 c2 c3 d : Int) : Prop := a1 * d < c1 * b ∨ (a1 * d = c1 * b ∧ (a2 * d < c2 * b ∨ (a2 * d = c2 * b ∧ a3 * d < c3 * b)))
theorem windLt_iff (x y : WOk) : windLt x.1 y.1 = true ↔ lexLt x.1.1 x.1.2.1 x.1.2.2.1 x.1.2.2.2 y.1.1 y.1.2.1 y.1.2.2.1 y.1.2.2.2 := by
  unfold windLt fracLt fracEq lexLt
  simp only [Bool.or_eq_true, Bool.and_eq_true, decide_eq_true_eq]
theorem lex_trans {a1 a2 a3 b c1 c2 c3 d e1 e2 e3 f : Int} (hb : 0 < b) (hd : 0 < d) (hf : 0 < f) (h1 : lexLt a1 a2 a3 b c1 c2 c3 d) (h2 : lexLt c1 c2 c3 d e1 e2 e3 f) : lexLt a1 a2 a3 b e1 e2 e3 f := by
  unfold lexLt at *
  rcases h1 with h1 | ⟨h1, h1'⟩
  · exact .inl (frac_trans_lt hb hd hf h1 (by rcases h2 with h | h <;> omega))
  · rcases h2 with h2 | ⟨h2, h2'⟩
    · exact .inl (frac_trans_lt' hb hd hf (by omega) h2)
    · refine .inr ⟨frac_eq hb hd hf h1 h2, ?_⟩
      rcases h1' with h1' | ⟨h1', h1''⟩
      · exact .inl (frac_trans_lt hb hd hf h1' (by rcases h2' with h | h <;> omega))
      · rcases h2' with h2' | ⟨h2', h2''⟩
        · exact .inl (frac_trans_lt' hb hd hf (by omega) h2')
        · exact .inr ⟨frac_eq hb hd hf h1' h2', frac_trans_lt hb hd hf h1'' (by omega)⟩
theorem lex_ntrans {a1 a2 a3 b c1 c2 c3 d e1 e2 e3 f : Int} (hb : 0 < b) (hd : 0 < d) (hf : 0 < f) (h1 : ¬ lexLt a1 a2 a3 b c1 c2 c3 d) (h2 : ¬ lexLt c1 c2 c3 d e1 e2 e3 f) : ¬ lexLt a1 a2 a3 b e1 e2 e3 f := by
  unfold lexLt at *
  simp only [not_or, not_and, Int.not_lt] at *
  obtain ⟨p1, p2⟩ := h1
  obtain ⟨q1, q2⟩ := h2
  have k1 := frac_trans hf hd hb q1 p1
  refine ⟨k1, fun he => ?_⟩
  have t1 : a1 * d = c1 * b := by
    rcases Int.lt_or_eq_of_le p1 with h | h
    · have := frac_trans_lt' hf hd hb q1 h; omega
    · exact h.symm
  have t2 : c1 * f = e1 * d := by
    rcases Int.lt_or_eq_of_le q1 with h | h
    · have := frac_trans_lt hf hd hb h p1; omega
    · exact h.symm
  obtain ⟨p3, p4⟩ := p2 t1
  obtain ⟨q3, q4⟩ := q2 t2
  have k2 := frac_trans hf hd hb q3 p3
  refine ⟨k2, fun he2 => ?_⟩
  have t3 : a2 * d = c2 * b := by
    rcases Int.lt_or_eq_of_le p3 with h | h
    · have := frac_trans_lt' hf hd hb q3 h; omega
    · exact h.symm
  have t4 : c2 * f = e2 * d := by
    rcases Int.lt_or_eq_of_le q3 with h | h
    · have := frac_trans_lt hf hd hb h p3; omega
    · exact h.symm
  exact frac_trans hf hd hb (q4 t4) (p4 t3)
theorem swo : SWO (ltOf cfO) := by
  refine ⟨fun x => ?_, fun x y z h1 h2 => ?_, fun x y z h1 h2 => ?_⟩
  · rw [cfO_lt, Bool.eq_false_iff]
    intro h
    rw [windLt_iff] at h
    unfold lexLt at h
    omega
  · rw [cfO_lt, windLt_iff] at *
    exact lex_trans (wok x).1 (wok y).1 (wok z).1 h1 h2
  · rw [cfO_lt, Bool.eq_false_iff, ne_eq, windLt_iff] at *
    exact lex_ntrans (wok x).1 (wok y).1 (wok z).1 h1 h2

def tW (P : Program) (t : TypeId) : Bool := agIs P t true && szIs P t 4
theorem tW_ok : tW Try.prog (Try.sortW_ren.t 24) = true := by decide +kernel
theorem wcmp (blk off size : Nat) (w : World) : CmpLays Try.prog 104 #[] wEnc 4 cfO blk off size w := by
  intro m os dk _ x y
  have h := (ordered_ok x.1 y.1).calls (sortWorldK wEnc 4 w blk off m dk os) (fun _ => False) (fun _ => {blk := 0}) [.agg (wEnc x).toArray, .agg (wEnc y).toArray] 0 (fun r h => h.elim) (by
    refine .cons (.agg _ (wEnc x) rfl ?_) (.cons (.agg _ (wEnc y) rfl ?_) .nil)
    · exact .cons (.i _ _) (.cons (.i _ _) (.cons (.i _ _) (.cons (.i _ _) .nil)))
    · exact .cons (.i _ _) (.cons (.i _ _) (.cons (.i _ _) (.cons (.i _ _) .nil))))
  rw [callsIn_wide] at h
  refine Calls.mono (by simpa using h) fun e w' he => ?_
  obtain ⟨v, v', rfl, hb, hv, -, rfl⟩ := he
  have := hv.i_inv
  subst this
  exact ⟨rfl, below_grow hb⟩
theorem flat_get (l : List WOk) : ∀ (t : Nat), t < l.length * 4 → (l.flatMap wEnc)[t]? = (wEnc (l.toArray[t / 4]!))[t % 4]? := by
  intro t ht
  have hlen : ∀ x : WOk, (wEnc x).length = 4 := fun _ => rfl
  have hi : t / 4 < l.length := by omega
  obtain ⟨p, q, h1, h2, -, -⟩ := flatMap_at wEnc hlen (List.getElem?_eq_getElem hi)
  rw [h1, List.append_assoc, List.getElem?_append_right (by omega), List.getElem?_append_left (by rw [hlen]; omega)]
  have : l.toArray[t / 4]! = l[t / 4] := by simp [hi]
  rw [this]
  congr 1
  omega
theorem flatK_list (l : List WOk) : (flatK wEnc 4 l.toArray).toList = l.flatMap wEnc := by
  apply List.ext_getElem?
  intro t
  have hlen : ∀ x : WOk, (wEnc x).length = 4 := fun _ => rfl
  have hfl : (l.flatMap wEnc).length = l.length * 4 := by
    induction l with
    | nil => rfl
    | cons x r ih => simp only [List.flatMap_cons, List.length_append, ih, hlen, List.length_cons]; omega
  by_cases ht : t < l.length * 4
  · rw [flat_get l t ht]
    have h1 : (flatK wEnc 4 l.toArray).toList[t]? = some ((flatK wEnc 4 l.toArray)[t]!) := by
      rw [Array.getElem?_toList, getElem!_pos _ t (by simpa using ht)]
      exact Array.getElem?_eq_getElem _
    rw [h1, get_flatK _ _ _ _ (by simpa using ht)]
    have : t % 4 < (wEnc (l.toArray[t / 4]!)).length := by rw [hlen]; omega
    rw [getElem!_pos (wEnc (l.toArray[t / 4]!)) (t % 4) this, List.getElem?_eq_getElem this]
  · rw [List.getElem?_eq_none (by simp; omega), List.getElem?_eq_none (by omega)]
theorem unpack_w (l : List WOk) : (l.map (·.1)).flatMap (unpack false windT) = l.flatMap fun x => [V.i .i64 x.1.1, .i .i64 x.1.2.1, .i .i64 x.1.2.2.1, .i .i64 x.1.2.2.2] := by
  induction l with
  | nil => rfl
  | cons x r ih => simp only [List.map_cons, List.flatMap_cons, ih]; rfl
theorem vrs_w (c : Cx) (l : List WOk) : VRs c ((l.map (·.1)).flatMap (unpack false windT)) (l.flatMap wEnc) := by
  rw [unpack_w]
  induction l with
  | nil => exact .nil
  | cons x r ih =>
    simp only [List.flatMap_cons]
    exact VRs.append (.cons (.i _ _) (.cons (.i _ _) (.cons (.i _ _) (.cons (.i _ _) .nil)))) ih
theorem vrs_cells {c : Cx} : ∀ {l : List WOk} {cs : List Value}, VRs c ((l.map (·.1)).flatMap (unpack false windT)) cs → cs = l.flatMap wEnc := by
  intro l
  rw [unpack_w]
  induction l with
  | nil => intro cs h; cases h; rfl
  | cons x r ih =>
    intro cs h
    simp only [List.flatMap_cons, List.cons_append, List.nil_append] at h ⊢
    cases h with
    | cons a h => cases h with
      | cons b h => cases h with
        | cons c2 h => cases h with
          | cons d h =>
            rw [a.i_inv, b.i_inv, c2.i_inv, d.i_inv, ih h]
            rfl
/-- The sort. -/
theorem sort_ok (l : List (T windT)) (hne : l ≠ []) (hok : l.all windOk = true) (hlen : l.length ≤ 1000) : SortOk Try.prog 103 windT l 104 (fun l' => l'.Perm l ∧ l'.Pairwise fun x y => windLt y x = false) := by
  have hf : Try.sortW_ren.f 6 = 103 := by decide +kernel
  refine ⟨⟨Try.f103, Try.func103, by decide +kernel, by decide +kernel⟩, ?_⟩
  intro w c blk cap cs rest e n hh hv
  obtain ⟨lw, rfl⟩ : ∃ lw : List WOk, l = lw.map (·.1) := by
    clear hne hlen hv
    induction l with
    | nil => exact ⟨[], rfl⟩
    | cons x r ih =>
      simp only [List.all_cons, Bool.and_eq_true] at hok
      obtain ⟨lw, rfl⟩ := ih hok.2
      exact ⟨⟨x, hok.1⟩ :: lw, rfl⟩
  have hcs := vrs_cells hv
  subst hcs
  rw [callsIn_wide]
  have ht := tW_ok
  simp only [tW, Bool.and_eq_true] at ht
  have eg : ∀ args w, (callFunc 104 args).run Try.prog w = .ok (.enter 104 args) w := enters_of Try.func104 (by kernel_rfl) rfl
  have hflen : (lw.flatMap wEnc).length = lw.length * 4 := by
    have := congrArg List.length (flatK_list lw)
    simpa using this.symm
  have hH : HoldsK wEnc 4 w blk 0 lw.toArray := by
    intro j hj
    simp only [size_flatK, List.size_toArray] at hj
    refine ⟨?_, frozen_none hh⟩
    rw [Nat.zero_add, cell_of hh]
    have h1 : (flatK wEnc 4 lw.toArray).toList[j]? = some ((flatK wEnc 4 lw.toArray)[j]!) := by
      rw [Array.getElem?_toList, getElem!_pos _ j (by simpa using hj)]
      exact Array.getElem?_eq_getElem _
    rw [flatK_list] at h1
    simp only [List.getElem?_toArray]
    rw [List.getElem?_append_left (by omega), h1]
    rfl
  have hcon := AnyQ.slices_SortFunc Try.sortW 4 (fun w => run_isAgg (agIs_eq ht.1)) (fun w => run_size (szIs_eq ht.2)) wEnc (fun _ => rfl) (fun x v hv => by simp [wEnc] at hv; rcases hv with rfl | rfl | rfl | rfl <;> rfl) cfO swo 104 #[] blk 0 cap lw.toArray w eg (wcmp blk 0 _ w) hH (lt_of_heap hh) (by simp only [List.length_map] at hlen; simp; omega)
  rw [hf] at hcon
  have hll : (lw.map (·.1)).length = lw.toArray.size := by simp
  rw [hll]
  refine Calls.mono hcon fun x w' hx => ?_
  obtain ⟨rfl, d', m, os, hp, hs, rfl⟩ := hx
  have hsize : d'.size = lw.length := by simpa using hp.1
  have hperm : d'.toList.Perm lw := by
    have := hp.2.2
    simp only [List.size_toArray] at this
    rw [← hsize, Array.extract_size] at this
    have h2 : (lw.toArray.extract 0 d'.size).toList = lw := by rw [hsize]; simp
    rw [h2] at this
    exact this
  have hblt := lt_of_heap hh
  refine ⟨rfl, ?_, rfl, rfl, ⟨rfl, ?_⟩, fun r hr hne2 => ?_, d'.toList.map (·.1), d'.toList.flatMap wEnc, by simp [hsize], ?_, vrs_w _ _, hperm.map _, ?_⟩
  · simp only [sortWorldK, grow, putRowK, putRow, mapBlock, Sort.ahead, Array.size_append, Array.size_modify]; omega
  · simp only [sortWorldK, grow, putRowK, putRow, mapBlock, Sort.ahead]; omega
  · simp only [sortWorldK, grow, putRowK, putRow, mapBlock, Sort.ahead]
    rw [Array.getElem?_append_left (by simpa using hr), Array.getElem?_modify, if_neg (Ne.symm hne2)]
  · simp only [sortWorldK, grow, putRowK, putRow, mapBlock, Sort.ahead]
    rw [Array.getElem?_append_left (by simpa using hblt), Array.getElem?_modify, if_pos rfl, hh]
    simp only [Option.map_some, onCells, Option.some.injEq, Obj.cells.injEq, and_true]
    have hfl := flatK_list d'.toList
    rw [Array.toArray_toList] at hfl
    have hdl : (d'.toList.flatMap wEnc).length = lw.length * 4 := by rw [← hfl]; simp [hsize]
    apply Array.ext_getElem?
    intro k
    simp only [putCells, Array.getElem?_mapIdx, List.getElem?_toArray, Nat.zero_le, true_and, Nat.zero_add, Nat.sub_zero, size_flatK, hsize]
    by_cases hk : k < lw.length * 4
    · rw [List.getElem?_append_left (by omega), List.getElem?_append_left (by omega)]
      have h1 : (d'.toList.flatMap wEnc)[k]? = some ((flatK wEnc 4 d')[k]!) := by
        rw [← hfl, Array.getElem?_toList, getElem!_pos _ k (by simp [hsize]; exact hk)]
        exact Array.getElem?_eq_getElem _
      rw [h1, List.getElem?_eq_getElem (by omega)]
      simp [hk]
    · rw [List.getElem?_append_right (by omega), List.getElem?_append_right (by omega), hflen, hdl]
      cases hr : rest[k - lw.length * 4]? with
      | none => rfl
      | some z => simp [hk]
  · rw [List.pairwise_map, List.pairwise_iff_getElem]
    intro i j hi hj hij
    have := hs i j (Nat.zero_le _) hij (by simpa [hsize] using hj)
    rw [cfO_lt] at this
    simp only [Array.length_toList] at hi hj
    rw [getElem!_pos d' i hi, getElem!_pos d' j hj] at this
    simpa using this
theorem sort0_ok : Sort0Ok Try.prog 103 := by
  have hf : Try.sortW_ren.f 6 = 103 := by decide +kernel
  refine ⟨⟨Try.f103, Try.func103, by decide +kernel, by decide +kernel⟩, fun w c' a cap n => callsIn_wide.2 ?_⟩
  have h := AnyF.slices_SortFunc_none Try.sortW a cap c' w
  rw [hf] at h
  refine Calls.mono h fun x w' hx => ?_
  obtain ⟨rfl, rfl⟩ := hx
  exact ⟨rfl, Below.refl _ _⟩
end Go.Ge
