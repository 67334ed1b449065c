/- The instructions that read and reckon. -/
import Derived.Test.YtneeobmefioenaaGeOne2
import Derived.Laws.StructEq
import Derived.ChangeKeysEq
namespace Go.Ge
open Go Go.RowKit

theorem run_part_agg {P : Program} {w : World} {t : TypeId} {n off : Nat} {p m q : List Value} (ha : aggOf P t = some true) (hn : szOf P t = some n) (hp : p.length = off) (hm : m.length = n) :
    (part t (p ++ m ++ q).toArray off).run P w = .ok (.agg m.toArray) w := by
  have : ((p ++ m ++ q).toArray.extract off (off + n)) = m.toArray := by
    apply Array.ext'
    rw [Array.toList_extract]
    subst hp; subst hm
    simp [List.extract, List.append_assoc]
  simp only [part, Sem.run_bind, run_isAgg ha, Result.andThen_ok, if_true, run_size hn, this, Sem.run_pure]
theorem run_part_one {P : Program} {w : World} {t : TypeId} {off : Nat} {p q : List Value} {x : Value} (ha : aggOf P t = some false) (hp : p.length = off) :
    (part t (p ++ [x] ++ q).toArray off).run P w = .ok x w := by
  have : (p ++ [x] ++ q).toArray[off]? = some x := by
    subst hp
    simp
  simp only [part, Sem.run_bind, run_isAgg ha, Result.andThen_ok, Bool.false_eq_true, if_false]
  rw [this]
  rfl
/-- A part of a value of several cells. -/
theorem part_sound {c : Cx} {P : Program} {w : World} {t : TypeId} {n off : Nat} {agg : Bool} {cs m : List V} {cs' : List Value} {v : V} (hv : VRs c cs cs') (hs : cs.all scal = true) (hc : cutN n off cs = some m) (hof : V.of agg m = some v)
    (ha : aggOf P t = some agg) (hn : szOf P t = some n) : ∃ v', (part t cs'.toArray off).run P w = .ok v' w ∧ VR c v v' := by
  obtain ⟨hl, p', m', q', rfl, hp, hm, hvm, hsc⟩ := hv.cut hc
  rcases of_sound hof (hsc hs) hvm with ⟨rfl, h⟩ | ⟨rfl, x, rfl, h⟩
  · exact ⟨_, run_part_agg ha hn hp hm, h⟩
  · exact ⟨_, run_part_one ha hp, h⟩

/-! ### Equality of values of several cells -/
def eqFs (rec : TypeId → Option (List Nat)) : List Field → Nat → Option (List Nat)
  | [], _ => some []
  | f :: fs, off => if f.name ≠ "_" ∧ f.offset = off then
      match rec f.type with
      | some s => match eqFs rec fs (off + s.length) with
        | some l => some (s ++ l)
        | none => none
      | none => none
    else none
def eqLv (P : Program) : Nat → TypeId → Option (List Nat)
  | 0, _ => none
  | d + 1, t => match P.underlying t with
    | some .bool => some [0]
    | some (.int _) => some [1]
    | some .string => some [2]
    | some (.struct fs) => if P.stoodInHeld t = false then
        match eqFs (eqLv P d) fs.toList 0 with
        | some l => if szOf P t = some l.length then some l else none
        | none => none
      else none
    | some (.array n e) => match eqLv P d e with
      | some s => if szOf P e = some s.length ∧ szOf P t = some (n * s.length) then some (List.replicate n s).flatten else none
      | none => none
    | _ => none
theorem kinds_append {a b : List Nat} : ∀ {l : List V}, kinds (a ++ b) l = true → ∃ x y, l = x ++ y ∧ kinds a x = true ∧ kinds b y = true := by
  induction a with
  | nil => intro l h; exact ⟨[], l, rfl, rfl, h⟩
  | cons k a ih =>
    intro l h
    cases l with
    | nil => simp [kinds] at h
    | cons c cs =>
      simp only [List.cons_append, kinds, Bool.and_eq_true] at h
      obtain ⟨x, y, rfl, h1, h2⟩ := ih h.2
      exact ⟨c :: x, y, rfl, by simp [kinds, h.1, h1], h2⟩
theorem kinds_length : ∀ {a : List Nat} {l : List V}, kinds a l = true → l.length = a.length
  | [], [], _ => rfl
  | _ :: _, _ :: _, h => by simp only [kinds, Bool.and_eq_true] at h; simp [kinds_length h.2]
  | [], _ :: _, h => by simp [kinds] at h
  | _ :: _, [], h => by simp [kinds] at h
theorem eqCs_append : ∀ {a b a2 b2 : List V} {r : Bool}, eqCs (a ++ a2) (b ++ b2) = some r → a.length = b.length → ∃ r1 r2, eqCs a b = some r1 ∧ eqCs a2 b2 = some r2 ∧ r = (r1 && r2)
  | [], [], a2, b2, r, h, _ => ⟨true, r, rfl, by simpa using h, by simp⟩
  | [], _ :: _, _, _, _, _, hl => by simp at hl
  | _ :: _, [], _, _, _, _, hl => by simp at hl
  | x :: a, y :: b, a2, b2, r, h, hl => by
    simp only [List.cons_append, eqCs] at h
    split at h
    · rename_i e he
      split at h
      · rename_i e2 he2
        simp only [Option.some.injEq] at h
        subst h
        obtain ⟨r1, r2, h1, h2, rfl⟩ := eqCs_append he2 (by simpa using hl)
        exact ⟨e && r1, r2, by simp [eqCs, he, h1], h2, by simp [Bool.and_assoc]⟩
      · simp at h
    · simp at h
/-- A value of n cells. -/
def asVal (P : Program) (t : TypeId) (cs : List Value) : Value :=
  match aggOf P t with
  | some true => .agg cs.toArray
  | _ => cs.headD .nilIface
theorem run_part_val {P : Program} {w : World} {t : TypeId} {ls : List Nat} {off d : Nat} {p m q : List Value} (he : eqLv P d t = some ls) (hp : p.length = off) (hm : m.length = ls.length) :
    (part t (p ++ m ++ q).toArray off).run P w = .ok (asVal P t m) w := by
  cases d with
  | zero => simp [eqLv] at he
  | succ d =>
    have one : aggOf P t = some false → ls.length = 1 → (part t (p ++ m ++ q).toArray off).run P w = .ok (asVal P t m) w := by
      intro ha hl
      match m, hm.trans hl with
      | [x], _ => simpa [asVal, ha] using run_part_one (P := P) (w := w) (q := q) (x := x) ha hp
    unfold eqLv at he
    split at he
    · rename_i hu
      simp only [Option.some.injEq] at he; subst he
      exact one (by simp [aggOf, hu]) rfl
    · rename_i hu
      simp only [Option.some.injEq] at he; subst he
      exact one (by simp [aggOf, hu]) rfl
    · rename_i hu
      simp only [Option.some.injEq] at he; subst he
      exact one (by simp [aggOf, hu]) rfl
    · rename_i hu
      split at he
      · split at he
        · split at he
          · rename_i hsz
            simp only [Option.some.injEq] at he; subst he
            have ha : aggOf P t = some true := by simp [aggOf, hu]
            simpa [asVal, ha] using run_part_agg (P := P) (w := w) (q := q) ha hsz hp hm
          · simp at he
        · simp at he
      · simp at he
    · rename_i hu
      split at he
      · split at he
        · rename_i hsz
          simp only [Option.some.injEq] at he; subst he
          have ha : aggOf P t = some true := by simp [aggOf, hu]
          have hm' := hm
          simp only [List.length_flatten, List.map_replicate, List.sum_replicate_nat] at hm'
          simpa [asVal, ha] using run_part_agg (P := P) (w := w) (q := q) ha hsz.2 hp hm'
        · simp at he
      · simp at he
    · simp at he
theorem eqC_one {c : Cx} {x y : V} {x' y' : Value} {r : Bool} (hx : VR c x x') (hy : VR c y y') (h : eqC x y = some r) :
    (∃ a b, x' = .bool a ∧ y' = .bool b ∧ r = (a == b)) ∨ (∃ k a b, x' = .int k a ∧ y' = .int k b ∧ r = (a == b)) ∨ (∃ a b, x' = .string a ∧ y' = .string b ∧ r = (a.toList == b.toList)) := by
  unfold eqC at h
  split at h
  · simp only [Option.some.injEq] at h
    exact .inl ⟨_, _, hx.b_inv, hy.b_inv, h.symm⟩
  · split at h
    · rename_i hk
      subst hk
      simp only [Option.some.injEq] at h
      exact .inr (.inl ⟨_, _, _, hx.i_inv, hy.i_inv, h.symm⟩)
    · simp at h
  · simp only [Option.some.injEq] at h
    exact .inr (.inr ⟨_, _, hx.s_inv, hy.s_inv, h.symm⟩)
  · simp at h


def EqOk (P : Program) (d : Nat) : Prop := ∀ (t : TypeId) (ls : List Nat), eqLv P d t = some ls → ∀ (c : Cx) (w : World) (D : Nat) (x y : List V) (x' y' : List Value) (r : Bool), kinds ls x = true → kinds ls y = true → VRs c x x' → VRs c y y' → eqCs x y = some r →
  (Op.equalIn (D + d) t (asVal P t x') (asVal P t y')).run P w = .ok r w
theorem eqFs_sound {P : Program} {d : Nat} (ih : EqOk P d) {c : Cx} {w : World} {D : Nat} : ∀ (fs : List Field) (off : Nat) (ls : List Nat), eqFs (eqLv P d) fs off = some ls → ∀ (p q x' y' : List Value) (x y : List V) (r : Bool), p.length = off → q.length = off → kinds ls x = true → kinds ls y = true → VRs c x x' → VRs c y y' → eqCs x y = some r →
    (Op.eqFields (D + d) (p ++ x').toArray (q ++ y').toArray fs).run P w = .ok r w
  | [], off, ls, h, p, q, x', y', x, y, r, hp, hq, kx, ky, vx, vy, e => by
    simp only [eqFs, Option.some.injEq] at h
    subst h
    cases x with
    | cons _ _ => simp [kinds] at kx
    | nil =>
      cases y with
      | cons _ _ => simp [kinds] at ky
      | nil => simp only [eqCs, Option.some.injEq] at e; subst e; simp [Op.eqFields]
  | f :: fs, off, ls, h, p, q, x', y', x, y, r, hp, hq, kx, ky, vx, vy, e => by
    simp only [eqFs] at h
    split at h
    · rename_i hf
      split at h
      · rename_i s hs
        split at h
        · rename_i l hl
          simp only [Option.some.injEq] at h
          subst h
          obtain ⟨x1, x2, rfl, kx1, kx2⟩ := kinds_append kx
          obtain ⟨y1, y2, rfl, ky1, ky2⟩ := kinds_append ky
          obtain ⟨x1', x2', rfl, vx1, vx2⟩ := vx.split
          obtain ⟨y1', y2', rfl, vy1, vy2⟩ := vy.split
          obtain ⟨r1, r2, e1, e2, rfl⟩ := eqCs_append e (by rw [kinds_length kx1, kinds_length ky1])
          have lx : x1'.length = s.length := by rw [← vx1.length, kinds_length kx1]
          have ly : y1'.length = s.length := by rw [← vy1.length, kinds_length ky1]
          have p1 := run_part_val (P := P) (w := w) (q := x2') hs (hp.trans hf.2.symm) lx
          have p2 := run_part_val (P := P) (w := w) (q := y2') hs (hq.trans hf.2.symm) ly
          have p3 := ih f.type s hs c w D x1 y1 x1' y1' r1 kx1 ky1 vx1 vy1 e1
          have p4 := eqFs_sound ih (c := c) (w := w) (D := D) fs _ l hl (p ++ x1') (q ++ y1') x2' y2' x2 y2 r2 (by simp [hp, lx]) (by simp [hq, ly]) kx2 ky2 vx2 vy2 e2
          rw [List.append_assoc] at p1 p2
          rw [List.append_assoc, List.append_assoc] at p4
          simp only [Op.eqFields, ne_eq, hf.1, not_false_eq_true, if_true, Sem.run_bind, p1, p2, p3, Result.andThen_ok]
          cases r1
          · simp
          · simpa using p4
        · simp at h
      · simp at h
    · simp at h
theorem eqItems_sound {P : Program} {d : Nat} (ih : EqOk P d) {c : Cx} {w : World} {D : Nat} {e : TypeId} {s : List Nat} (he : eqLv P d e = some s) : ∀ (n i : Nat) (p q x' y' : List Value) (x y : List V) (r : Bool), p.length = i * s.length → q.length = i * s.length →
    kinds (List.replicate n s).flatten x = true → kinds (List.replicate n s).flatten y = true → VRs c x x' → VRs c y y' → eqCs x y = some r →
    (Op.eqItems (D + d) e s.length (p ++ x').toArray (q ++ y').toArray (List.range' i n)).run P w = .ok r w
  | 0, i, p, q, x', y', x, y, r, hp, hq, kx, ky, vx, vy, e => by
    cases x with
    | cons _ _ => simp [kinds] at kx
    | nil =>
      cases y with
      | cons _ _ => simp [kinds] at ky
      | nil => simp only [eqCs, Option.some.injEq] at e; subst e; simp [Op.eqItems]
  | n + 1, i, p, q, x', y', x, y, r, hp, hq, kx, ky, vx, vy, e => by
    rw [List.replicate_succ, List.flatten_cons] at kx ky
    obtain ⟨x1, x2, rfl, kx1, kx2⟩ := kinds_append kx
    obtain ⟨y1, y2, rfl, ky1, ky2⟩ := kinds_append ky
    obtain ⟨x1', x2', rfl, vx1, vx2⟩ := vx.split
    obtain ⟨y1', y2', rfl, vy1, vy2⟩ := vy.split
    obtain ⟨r1, r2, e1, e2, rfl⟩ := eqCs_append e (by rw [kinds_length kx1, kinds_length ky1])
    have lx : x1'.length = s.length := by rw [← vx1.length, kinds_length kx1]
    have ly : y1'.length = s.length := by rw [← vy1.length, kinds_length ky1]
    have p1 := run_part_val (P := P) (w := w) (q := x2') he hp lx
    have p2 := run_part_val (P := P) (w := w) (q := y2') he hq ly
    have p3 := ih _ s he c w D x1 y1 x1' y1' r1 kx1 ky1 vx1 vy1 e1
    have p4 := eqItems_sound ih (c := c) (w := w) (D := D) he n (i + 1) (p ++ x1') (q ++ y1') x2' y2' x2 y2 r2 (by simp [hp, lx, Nat.add_mul]) (by simp [hq, ly, Nat.add_mul]) kx2 ky2 vx2 vy2 e2
    rw [List.append_assoc] at p1 p2
    rw [List.append_assoc, List.append_assoc] at p4
    rw [List.range'_succ]
    simp only [Op.eqItems, Sem.run_bind, p1, p2, p3, Result.andThen_ok]
    cases r1
    · simp
    · simpa using p4
theorem cellsOf_size {P : Program} {e : TypeId} {n : Nat} (h : szOf P e = some n) : P.cellsOf e = n := by
  simp only [szOf, Option.map_eq_some_iff] at h
  obtain ⟨i, hi, rfl⟩ := h
  simp [Program.cellsOf, hi]
theorem eqLv_sound {P : Program} : ∀ (d : Nat), EqOk P d
  | 0 => fun t ls h => by simp [eqLv] at h
  | d + 1 => fun t ls h c w D x y x' y' r kx ky vx vy e => by
    have ih := eqLv_sound (P := P) d
    have leaf : ∀ (k : Nat), ls = [k] → aggOf P t = some false → (∃ x1 y1 x1' y1', x = [x1] ∧ y = [y1] ∧ VR c x1 x1' ∧ VR c y1 y1' ∧ asVal P t x' = x1' ∧ asVal P t y' = y1' ∧ kind1 x1 = k ∧ eqC x1 y1 = some r) := by
      rintro k rfl ha
      have hx := kinds_length kx
      have hy := kinds_length ky
      match x, y, hx, hy with
      | [x1], [y1], _, _ =>
        cases vx with
        | cons a1 b1 =>
          cases b1
          cases vy with
          | cons a2 b2 =>
            cases b2
            simp only [kinds, Bool.and_true, Nat.beq_eq] at kx
            simp only [eqCs] at e
            split at e
            · rename_i e1 he1
              simp only [Bool.and_true, Option.some.injEq] at e
              subst e
              exact ⟨x1, y1, _, _, rfl, rfl, a1, a2, by simp [asVal, ha], by simp [asVal, ha], kx.symm, he1⟩
            · simp at e
    have fin : ∀ (k : Nat), ls = [k] → aggOf P t = some false → (∀ (x1 y1 : V) (x1' y1' : Value), VR c x1 x1' → VR c y1 y1' → kind1 x1 = k → eqC x1 y1 = some r → (Op.equalIn (D + d + 1) t x1' y1').run P w = .ok r w) → (Op.equalIn (D + (d + 1)) t (asVal P t x') (asVal P t y')).run P w = .ok r w := by
      intro k hk ha hh
      obtain ⟨x1, y1, x1', y1', -, -, v1, v2, e1, e2, k1, e3⟩ := leaf k hk ha
      rw [e1, e2]
      exact hh x1 y1 x1' y1' v1 v2 k1 e3
    unfold eqLv at h
    split at h
    · rename_i hu
      simp only [Option.some.injEq] at h
      refine fin 0 h.symm (by simp [aggOf, hu]) fun x1 y1 x1' y1' v1 v2 k1 e3 => ?_
      rcases eqC_one v1 v2 e3 with ⟨a, b, rfl, rfl, rfl⟩ | ⟨k, a, b, rfl, _, _⟩ | ⟨a, b, rfl, _, _⟩
      · exact run_equalIn_bool w _ t a b hu
      · cases v1; simp [kind1] at k1
      · cases v1; simp [kind1] at k1
    · rename_i hu
      simp only [Option.some.injEq] at h
      refine fin 1 h.symm (by simp [aggOf, hu]) fun x1 y1 x1' y1' v1 v2 k1 e3 => ?_
      rcases eqC_one v1 v2 e3 with ⟨a, b, rfl, rfl, rfl⟩ | ⟨k, a, b, rfl, rfl, rfl⟩ | ⟨a, b, rfl, _, _⟩
      · cases v1; simp [kind1] at k1
      · exact run_equalIn_int w _ t _ _ a b hu
      · cases v1; simp [kind1] at k1
    · rename_i hu
      simp only [Option.some.injEq] at h
      refine fin 2 h.symm (by simp [aggOf, hu]) fun x1 y1 x1' y1' v1 v2 k1 e3 => ?_
      rcases eqC_one v1 v2 e3 with ⟨a, b, rfl, rfl, rfl⟩ | ⟨k, a, b, rfl, _, _⟩ | ⟨a, b, rfl, rfl, rfl⟩
      · cases v1; simp [kind1] at k1
      · cases v1; simp [kind1] at k1
      · exact run_equalIn_string w _ t a b hu
    · rename_i fs hu
      split at h
      · rename_i hh
        split at h
        · rename_i l hl
          split at h
          · simp only [Option.some.injEq] at h
            subst h
            have ha : aggOf P t = some true := by simp [aggOf, hu]
            have hfs : P.fieldsOf t = fs := by simp [Program.fieldsOf, hu]
            have := eqFs_sound ih (c := c) (w := w) (D := D) fs.toList 0 l hl [] [] x' y' x y r rfl rfl kx ky vx vy e
            simp only [asVal, ha]
            show (Op.equalIn ((D + d) + 1) t _ _).run P w = _
            rw [run_equalIn_struct w (D + d) t _ _ (by rw [hfs]; exact hu) hh, hfs]
            simpa using this
          · simp at h
        · simp at h
      · simp at h
    · rename_i n e2 hu
      split at h
      · rename_i s hs
        split at h
        · rename_i hsz
          simp only [Option.some.injEq] at h
          subst h
          have ha : aggOf P t = some true := by simp [aggOf, hu]
          obtain ⟨i, hi⟩ : ∃ i, P.info? e2 = some i := by
            have := hsz.1
            simp only [szOf, Option.map_eq_some_iff] at this
            obtain ⟨i, hi, _⟩ := this
            exact ⟨i, hi⟩
          have := eqItems_sound ih (c := c) (w := w) (D := D) hs n 0 [] [] x' y' x y r (by simp) (by simp) kx ky vx vy e
          simp only [asVal, ha]
          show (Op.equalIn ((D + d) + 1) t _ _).run P w = _
          rw [run_equalIn_array w (D + d) _ _ hu hi, cellsOf_size hsz.1]
          simpa [List.range_eq_range'] using this
        · simp at h
      · simp at h
    · simp at h
/-- Two values of several cells, compared. -/
theorem eq_agg {P : Program} {d : Nat} (hd : d ≤ 10000) {t : TypeId} {ls : List Nat} (h : eqLv P d t = some ls) (ha : aggOf P t = some true) {c : Cx} {w : World} {x y : List V} {x' y' : List Value} {r : Bool} (kx : kinds ls x = true) (ky : kinds ls y = true)
    (vx : VRs c x x') (vy : VRs c y y') (e : eqCs x y = some r) : (Op.equalIn 10000 t (.agg x'.toArray) (.agg y'.toArray)).run P w = .ok r w := by
  have := eqLv_sound d t ls h c w (10000 - d) x y x' y' r kx ky vx vy e
  rw [Nat.sub_add_cancel hd] at this
  simpa [asVal, ha] using this
theorem eqCs_kinds : ∀ {x y : List V} {r : Bool} {ls : List Nat}, eqCs x y = some r → kinds ls x = true → kinds ls y = true
  | [], [], _, [], _, _ => rfl
  | [], [], _, _ :: _, _, h => by simp [kinds] at h
  | x :: xs, y :: ys, r, [], _, h => by simp [kinds] at h
  | x :: xs, y :: ys, r, k :: ls, e, h => by
    simp only [kinds, Bool.and_eq_true] at h
    simp only [eqCs] at e
    split at e
    · rename_i a ha
      split at e
      · rename_i b hb
        have : kind1 y = kind1 x := by
          unfold eqC at ha
          split at ha <;> first | rfl | (simp at ha)
        simp only [kinds, Bool.and_eq_true, this]
        exact ⟨h.1, eqCs_kinds hb h.2⟩
      · simp at e
    · simp at e
  | [], _ :: _, _, _, e, _ => by simp [eqCs] at e
  | _ :: _, [], _, _, e, _ => by simp [eqCs] at e
end Go.Ge
