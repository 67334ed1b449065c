/- Maps: an entry is made or changed; the next entry. -/
import Derived.Test.YtneeobmefioenaaGeOne11
namespace Go.Ge
open Go Go.RowKit

theorem eqCs_app : ∀ {a b c d : List V} {r1 r2 : Bool}, eqCs a b = some r1 → eqCs c d = some r2 → eqCs (a ++ c) (b ++ d) = some (r1 && r2)
  | [], [], c, d, r1, r2, h1, h2 => by simp only [eqCs, Option.some.injEq] at h1; subst h1; simpa using h2
  | [], _ :: _, _, _, _, _, h1, _ => by simp [eqCs] at h1
  | _ :: _, [], _, _, _, _, h1, _ => by simp [eqCs] at h1
  | x :: a, y :: b, c, d, r1, r2, h1, h2 => by
    simp only [eqCs] at h1
    split at h1
    · rename_i e he
      split at h1
      · rename_i e2 he2
        simp only [Option.some.injEq] at h1
        subst h1
        have := eqCs_app he2 h2
        simp only [List.cons_append, eqCs, he, this, Bool.and_assoc]
      · simp at h1
    · simp at h1
theorem eqT_cs (bor : Bool) : ∀ (t : Ty) (x y : T t), flat t = true → eqCs (unpack bor t x) (unpack bor t y) = some (eqT t x y)
  | .bool, x, y, _ => by simp [unpack, eqCs, eqC, eqT]
  | .int _, x, y, _ => by simp [unpack, eqCs, eqC, eqT]
  | .str, x, y, _ => by simp [unpack, eqCs, eqC, eqT]
  | .unit, x, y, _ => rfl
  | .prod a b, x, y, h => by
    simp only [flat, Bool.and_eq_true] at h
    exact eqCs_app (eqT_cs bor a x.1 y.1 h.1) (eqT_cs bor b x.2 y.2 h.2)
  | .slice t, x, y, h => by simp [flat] at h
theorem bytes_ext {x y : ByteArray} (h : x.toList = y.toList) : x = y := by
  rw [ByteArray.toList_eq, ByteArray.toList_eq] at h
  exact ByteArray.ext (Array.toList_inj.1 h)
theorem eqT_eq : ∀ (t : Ty) (x y : T t), flat t = true → eqT t x y = true → x = y
  | .bool, x, y, _, h => by simpa [eqT] using h
  | .int _, x, y, _, h => by simpa [eqT] using h
  | .str, x, y, _, h => by simp only [eqT, beq_iff_eq] at h; exact bytes_ext h
  | .unit, x, y, _, _ => rfl
  | .prod a b, x, y, hf, h => by
    simp only [flat, Bool.and_eq_true] at hf
    simp only [eqT, Bool.and_eq_true] at h
    exact Prod.ext (eqT_eq a _ _ hf.1 h.1) (eqT_eq b _ _ hf.2 h.2)
  | .slice t, x, y, hf, _ => by simp [flat] at hf
theorem pack_flat (bor : Bool) : ∀ (t : Ty) {l r : List V} {x : T t}, flat t = true → pack t l = some (x, r) → l = unpack bor t x ++ r := by
  intro t
  induction t with
  | bool =>
    intro l r x _ h
    cases l with
    | nil => simp [pack] at h
    | cons c cs =>
      cases c <;> (try (simp [pack] at h; done))
      simp only [pack, Option.some.injEq, Prod.mk.injEq] at h
      obtain ⟨rfl, rfl⟩ := h
      rfl
  | int k =>
    intro l r x _ h
    cases l with
    | nil => simp [pack] at h
    | cons c cs =>
      cases c <;> (try (simp [pack] at h; done))
      simp only [pack] at h
      split at h
      · rename_i hk; subst hk; simp only [Option.some.injEq, Prod.mk.injEq] at h; obtain ⟨rfl, rfl⟩ := h; rfl
      · simp at h
  | str =>
    intro l r x _ h
    cases l with
    | nil => simp [pack] at h
    | cons c cs =>
      cases c <;> (try (simp [pack] at h; done))
      simp only [pack, Option.some.injEq, Prod.mk.injEq] at h
      obtain ⟨rfl, rfl⟩ := h
      rfl
  | unit => intro l r x _ h; simp only [pack, Option.some.injEq, Prod.mk.injEq] at h; simp [unpack, h.2]
  | prod a b iha ihb =>
    intro l r x hf h
    simp only [flat, Bool.and_eq_true] at hf
    simp only [pack] at h
    split at h
    · rename_i u r1 h1
      split at h
      · rename_i v r2 h2
        simp only [Option.some.injEq, Prod.mk.injEq] at h
        obtain ⟨rfl, rfl⟩ := h
        rw [iha hf.1 h1, ihb hf.2 h2]
        simp [unpack]
      · simp at h
    · simp at h
  | slice t _ => intro l r x hf _; simp [flat] at hf
theorem packAll_flat (bor : Bool) {t : Ty} {l : List V} {x : T t} (hf : flat t = true) (h : packAll t l = some x) : l = unpack bor t x := by
  unfold packAll at h
  split at h
  · rename_i y hy
    simp only [Option.some.injEq] at h
    subst h
    simpa using pack_flat bor t hf hy
  · simp at h

/-! ### A key may be one -/
def ChkOk (P : Program) (d : Nat) : Prop := ∀ (t : TypeId) (ls : List Nat), eqLv P d t = some ls → ∀ (em : Bool) (w : World) (D : Nat) (x' : List Value), x'.length = ls.length → (∀ v, v ∈ x' → plain v) → (Instr.checkKey em (D + d) t (asVal P t x')).run P w = .ok () w
theorem chk_leaf {P : Program} {w : World} {em : Bool} {n : Nat} {t : TypeId} {v : Value} {ds : TypeDesc} (hu : P.underlying t = some ds) (hd : ds = .bool ∨ (∃ k, ds = .int k) ∨ ds = .string) : (Instr.checkKey em (n + 1) t v).run P w = .ok () w := by
  rw [Instr.checkKey]
  simp only [Sem.run_bind, run_und hu, Result.andThen_ok]
  rcases hd with rfl | ⟨k, rfl⟩ | rfl <;> simp
theorem chk_fields {P : Program} {d : Nat} (ih : ChkOk P d) {em : Bool} {w : World} {D : Nat} : ∀ (fs : List Field) (off : Nat) (ls : List Nat), eqFs (eqLv P d) fs off = some ls → ∀ (p x' : List Value), p.length = off → x'.length = ls.length → (∀ v, v ∈ x' → plain v) →
    (forIn (m := Sem) fs PUnit.unit fun f _ => do
      if f.name ≠ "_" then Instr.checkKey em (D + d) f.type (← part f.type (p ++ x').toArray f.offset)
      pure (ForInStep.yield PUnit.unit)).run P w = .ok PUnit.unit w
  | [], off, ls, h, p, x', hp, hx, hpl => by simp
  | f :: fs, off, ls, h, p, x', hp, hx, hpl => by
    simp only [eqFs] at h
    split at h
    · rename_i hf
      split at h
      · rename_i s hs
        split at h
        · rename_i l hl
          simp only [Option.some.injEq] at h
          subst h
          obtain ⟨x1, x2, rfl, hl1⟩ : ∃ x1 x2, x' = x1 ++ x2 ∧ x1.length = s.length := ⟨x'.take s.length, x'.drop s.length, by simp, by simp only [List.length_append] at hx; simp; omega⟩
          have p1 := run_part_val (P := P) (w := w) (q := x2) hs (hp.trans hf.2.symm) hl1
          have p3 := ih f.type s hs em w D x1 hl1 fun v hv => hpl v (by simp [hv])
          have p4 := chk_fields ih (em := em) (w := w) (D := D) fs _ l hl (p ++ x1) x2 (by simp [hp, hl1]) (by simp only [List.length_append] at hx; omega) fun v hv => hpl v (by simp [hv])
          rw [List.append_assoc] at p1 p4
          rw [List.forIn_cons]
          simp only [ne_eq, hf.1, not_false_eq_true, if_true, Sem.run_bind, p1, p3, Result.andThen_ok, Sem.run_pure]
          exact p4
        · simp at h
      · simp at h
    · simp at h
theorem chk_items {P : Program} {d : Nat} (ih : ChkOk P d) {em : Bool} {w : World} {D : Nat} {e : TypeId} {s : List Nat} (he : eqLv P d e = some s) (hz : szOf P e = some s.length) : ∀ (n i : Nat) (p x' : List Value), p.length = i * s.length → x'.length = n * s.length → (∀ v, v ∈ x' → plain v) →
    (forIn (m := Sem) (List.range' i n) PUnit.unit fun i _ => do
      Instr.checkKey em (D + d) e (← part e (p ++ x').toArray (i * (← sizeOf e)))
      pure (ForInStep.yield PUnit.unit)).run P w = .ok PUnit.unit w
  | 0, i, p, x', hp, hx, hpl => by simp
  | n + 1, i, p, x', hp, hx, hpl => by
    obtain ⟨x1, x2, rfl, hl1⟩ : ∃ x1 x2, x' = x1 ++ x2 ∧ x1.length = s.length := ⟨x'.take s.length, x'.drop s.length, by simp, by rw [Nat.add_mul] at hx; simp; omega⟩
    have p1 := run_part_val (P := P) (w := w) (q := x2) he hp hl1
    have p3 := ih e s he em w D x1 hl1 fun v hv => hpl v (by simp [hv])
    have p4 := chk_items ih (em := em) (w := w) (D := D) he hz n (i + 1) (p ++ x1) x2 (by simp [hp, hl1, Nat.add_mul]) (by simp only [List.length_append, Nat.add_mul] at hx; omega) fun v hv => hpl v (by simp [hv])
    rw [List.append_assoc] at p1 p4
    rw [List.range'_succ, List.forIn_cons]
    simp only [Sem.run_bind, run_size hz, Result.andThen_ok, p1, p3, Sem.run_pure]
    exact p4
theorem chk_sound {P : Program} : ∀ (d : Nat), ChkOk P d
  | 0 => fun t ls h => by simp [eqLv] at h
  | d + 1 => fun t ls h em w D x' hx hpl => by
    have ih := chk_sound (P := P) d
    unfold eqLv at h
    split at h
    · rename_i hu; exact chk_leaf hu (.inl rfl)
    · rename_i hu; exact chk_leaf hu (.inr (.inl ⟨_, rfl⟩))
    · rename_i hu; exact chk_leaf hu (.inr (.inr rfl))
    · rename_i fs hu
      split at h
      · split at h
        · rename_i l hl
          split at h
          · simp only [Option.some.injEq] at h
            subst h
            have ha : aggOf P t = some true := by simp [aggOf, hu]
            have := chk_fields ih (em := em) (w := w) (D := D) fs.toList 0 l hl [] x' rfl hx hpl
            simp only [asVal, ha]
            rw [show D + (d + 1) = (D + d) + 1 from rfl, Instr.checkKey]
            simp only [Sem.run_bind, run_und hu, Result.andThen_ok]
            rw [← Array.forIn_toList]
            simp only [List.nil_append] at this
            rw [this]
            rfl
          · simp at h
        · simp at h
      · simp at h
    · rename_i n e2 hu
      split at h
      · rename_i s hs
        split at h
        · rename_i hsz
          simp only [Option.some.injEq] at h
          subst h
          have ha : aggOf P t = some true := by simp [aggOf, hu]
          have := chk_items ih (em := em) (w := w) (D := D) hs hsz.1 n 0 [] x' (by simp) (by simpa using hx) hpl
          simp only [asVal, ha]
          rw [show D + (d + 1) = (D + d) + 1 from rfl, Instr.checkKey]
          simp only [Sem.run_bind, run_und hu, Result.andThen_ok]
          simp only [Std.Legacy.Range.forIn_eq_forIn_range', Std.Legacy.Range.size, Nat.sub_zero, Nat.add_one_sub_one, Nat.div_one]
          simp only [List.nil_append] at this
          rw [this]
          rfl
        · simp at h
      · simp at h
    · simp at h

/-! ### The entry with a key -/
def fI {kt vt : Ty} (k : T kt) : List (T kt × T vt) → Nat → Option Nat
  | [], _ => none
  | p :: r, i => bif eqT kt k p.1 then some i else fI k r (i + 1)
theorem val_inv {P : Program} {t : TypeId} {ka : Bool} (ha : aggOf P t = some ka) {c : Cx} {u : List V} (hs : u.all scal = true) {a : V} {v' : Value} (h : V.of ka u = some a) (hv : VR c a v') : ∃ cs', asVal P t cs' = v' ∧ VRs c u cs' ∧ v'.cells.toList = cs' ∧ (∀ x, x ∈ cs' → plain x) := by
  cases ka with
  | true =>
    simp only [V.of, Option.some.injEq] at h
    subst h
    obtain ⟨cs', rfl, h1, -⟩ := hv.agg_inv
    exact ⟨cs', by simp [asVal, ha], h1, by simp [Value.cells], h1.plain hs⟩
  | false =>
    simp only [V.of] at h
    split at h
    · rename_i x
      simp only [Option.some.injEq] at h
      subst h
      have hp : plain v' := hv.plain (by simpa using hs)
      refine ⟨[v'], by simp [asVal, ha], .cons hv .nil, ?_, by simpa using hp⟩
      cases v' <;> first | rfl | exact hp.elim
    · simp at h
theorem of_cells {ka : Bool} {u : List V} {a : V} (h : V.of ka u = some a) (hs : u.all scal = true) : a.cells = u := by
  cases ka with
  | true => simp only [V.of, Option.some.injEq] at h; subst h; rfl
  | false =>
    simp only [V.of] at h
    split at h
    · rename_i x
      simp only [Option.some.injEq] at h
      subst h
      cases x <;> first | rfl | (simp [scal] at hs)
    · simp at h
theorem cells_of_key {c : Cx} {val : V} {val' : Value} (hv : VR c val val') {u : List V} (hu : VRs c u val'.cells.toList) (hs : u.all scal = true) (hc : val.cells.length = u.length) (hsv : vAgg val = false → scal val = true) : ∃ a, V.of (vAgg val) u = some a ∧ VR c a val' := by
  cases hg : vAgg val with
  | true =>
    cases val <;> (try (simp [vAgg] at hg; done))
    obtain ⟨cs', rfl, h1, -⟩ := hv.agg_inv
    exact ⟨_, rfl, .agg u cs' hs (by simpa [Value.cells] using hu)⟩
  | false =>
    have hp : plain val' := hv.plain (hsv hg)
    have hc2 : val'.cells.toList = [val'] := by cases val' <;> first | rfl | exact hp.elim
    rw [hc2] at hu
    match u, hu with
    | [x], .cons h .nil => exact ⟨x, rfl, h⟩
theorem sameNow_sound {kt : Ty} (hf : flat kt = true) {ka : Bool} {c : Cx} {x y : T kt} {a b : V} {x' y' : Value} (ha : V.of ka (unpack false kt x) = some a) (hb : V.of ka (unpack false kt y) = some b) (va : VR c a x') (vb : VR c b y') {ds : TypeDesc} {r : Bool} (h : Instr.sameNow ds x' y' = some r) : r = eqT kt x y := by
  have key : ∀ u v : V, a = u → b = v → vAgg u = false → vAgg v = false → eqCs [u] [v] = some (eqT kt x y) := by
    rintro u v rfl rfl h1 h2
    have := eqT_cs false kt x y hf
    cases ka with
    | true => simp only [V.of, Option.some.injEq] at ha; subst ha; simp [vAgg] at h1
    | false =>
      simp only [V.of] at ha hb
      split at ha
      · rename_i z hz
        split at hb
        · rename_i z2 hz2
          simp only [Option.some.injEq] at ha hb
          subst ha hb
          rw [hz, hz2] at this
          exact this
        · simp at hb
      · simp at ha
  unfold Instr.sameNow at h
  split at h
  · rename_i k1 n1 k2 n2
    split at h
    · rename_i hk
      subst hk
      cases va
      cases vb
      have := key _ _ rfl rfl rfl rfl
      simp only [eqCs, eqC, if_true, Bool.and_true, Option.some.injEq] at this h
      rw [← h, this]
    · simp at h
  · cases va
    cases vb
    have := key _ _ rfl rfl rfl rfl
    simp only [eqCs, eqC, Bool.and_true, Option.some.injEq] at this h
    rw [← h, ← this, beq_toListBytes]
  · cases va
    cases vb
    have := key _ _ rfl rfl rfl rfl
    simp only [eqCs, eqC, Bool.and_true, Option.some.injEq] at this h
    rw [← h, this]
  · simp at h
def FoundIs {kt vt : Ty} (k : T kt) (l : List (T kt × T vt)) (i : Nat) (r : Option (Nat × Value)) : Prop :=
  match fI k l i with
  | none => r = none
  | some j => ∃ v, r = some (j, v)
section
variable {P : Program} {w : World} {kt vt : Ty} {ka : Bool} {c : Cx} {k : T kt} {a : V} {key' : Value} {kt' : TypeId} {ls : List Nat} {d : Nat}
theorem find_now (hf : flat kt = true) (ha : V.of ka (unpack false kt k) = some a) (va : VR c a key') {ds : TypeDesc} : ∀ (l : List (T kt × T vt)) (esl : List MapEntry) (i : Nat), esl.length = l.length →
    (∀ (j : Nat) p, l[j]? = some p → ∃ e b, esl[j]? = some e ∧ V.of ka (unpack false kt p.1) = some b ∧ VR c b e.key) → ∀ r, Instr.findNow ds key' esl i = some r → FoundIs k l i r
  | [], [], i, _, _, r, h => by simp only [Instr.findNow, Option.some.injEq] at h; subst h; rfl
  | p :: l, e :: esl, i, hl, hp, r, h => by
    obtain ⟨e2, b, h1, h2, h3⟩ := hp 0 p rfl
    simp only [List.getElem?_cons_zero, Option.some.injEq] at h1
    subst h1
    simp only [Instr.findNow] at h
    unfold FoundIs fI
    split at h
    · rename_i hs
      rw [← sameNow_sound hf ha h2 va h3 hs]
      simp only [Option.some.injEq] at h
      subst h
      exact ⟨_, rfl⟩
    · rename_i hs
      rw [← sameNow_sound hf ha h2 va h3 hs]
      exact find_now hf ha va l esl (i + 1) (by simpa using hl) (fun j q hq => by simpa using hp (j + 1) q (by simpa using hq)) r h
    · simp at h
  | [], _ :: _, _, hl, _, _, _ => by simp at hl
  | _ :: _, [], _, hl, _, _, _ => by simp at hl
theorem find_asking (hf : flat kt = true) (hg : aggOf P kt' = some ka) (he : eqLv P d kt' = some ls) (hd : d ≤ 10000) (hk : kinds ls (unpack false kt k) = true) (ha : V.of ka (unpack false kt k) = some a) (va : VR c a key') : ∀ (l : List (T kt × T vt)) (esl : List MapEntry) (i : Nat), esl.length = l.length →
    (∀ (j : Nat) p, l[j]? = some p → ∃ e b, esl[j]? = some e ∧ V.of ka (unpack false kt p.1) = some b ∧ VR c b e.key) → ∃ r, (Instr.findAsking kt' key' esl i).run P w = .ok r w ∧ FoundIs k l i r
  | [], [], i, _, _ => ⟨none, by simp [Instr.findAsking], rfl⟩
  | p :: l, e :: esl, i, hl, hp => by
    obtain ⟨e2, b, h1, h2, h3⟩ := hp 0 p rfl
    simp only [List.getElem?_cons_zero, Option.some.injEq] at h1
    subst h1
    obtain ⟨cs1, q1, q2, -, -⟩ := val_inv hg (scal_unpack _ _ _) ha va
    obtain ⟨cs2, q3, q4, -, -⟩ := val_inv hg (scal_unpack _ _ _) h2 h3
    have hcs := eqT_cs false kt k p.1 hf
    have heq := eqLv_sound (P := P) d kt' ls he c w (10000 - d) _ _ cs1 cs2 _ hk (eqCs_kinds hcs hk) q2 q4 hcs
    rw [Nat.sub_add_cancel hd, q1, q3] at heq
    have heq' : (Op.equal kt' key' e.key).run P w = .ok (eqT kt k p.1) w := heq
    simp only [Instr.findAsking, Sem.run_bind, heq', Result.andThen_ok]
    unfold FoundIs fI
    cases hq : eqT kt k p.1 with
    | true => exact ⟨some (i, e.val), by simp, e.val, rfl⟩
    | false =>
      obtain ⟨r, h4, h5⟩ := find_asking hf hg he hd hk ha va l esl (i + 1) (by simpa using hl) (fun j q hq => by simpa using hp (j + 1) q (by simpa using hq))
      exact ⟨r, by simpa using h4, h5⟩
  | [], _ :: _, _, hl, _ => by simp at hl
  | _ :: _, [], _, hl, _ => by simp at hl
theorem run_findKey (hf : flat kt = true) (hg : aggOf P kt' = some ka) (he : eqLv P d kt' = some ls) (hd : d ≤ 10000) (hk : kinds ls (unpack false kt k) = true) (ha : V.of ka (unpack false kt k) = some a) (va : VR c a key') {va' : Bool} {l : List (T kt × T vt)} {es : Array MapEntry} {clock : Nat} (hm : MapR c ka va' kt vt l es clock) :
    ∃ r, (Instr.findKey kt' key' es.toList).run P w = .ok r w ∧ FoundIs k l 0 r := by
  have hl : es.toList.length = l.length := by simpa using hm.size
  have hp : ∀ (j : Nat) p, l[j]? = some p → ∃ e b, es.toList[j]? = some e ∧ V.of ka (unpack false kt p.1) = some b ∧ VR c b e.key := fun j p h => by
    obtain ⟨e, a, v, h1, -, h2, h3, -, -⟩ := hm.at_ j p h
    exact ⟨e, a, by simpa using h1, h2, h3⟩
  obtain ⟨ds, hu⟩ : ∃ ds, P.underlying kt' = some ds := by
    unfold aggOf at hg
    split at hg <;> first | exact ⟨_, by assumption⟩ | (simp at hg)
  simp only [Instr.findKey, Sem.run_bind, run_und hu, Result.andThen_ok]
  cases hn : Instr.findNow ds key' es.toList 0 with
  | some r => exact ⟨r, by simp, find_now hf ha va l _ 0 hl hp r hn⟩
  | none => exact find_asking hf hg he hd hk ha va l _ 0 hl hp
end
theorem fI_ge {kt vt : Ty} {k : T kt} : ∀ {l : List (T kt × T vt)} {i j : Nat}, fI k l i = some j → i ≤ j ∧ ∃ p, l[j - i]? = some p ∧ eqT kt k p.1 = true
  | [], i, j, h => by simp [fI] at h
  | p :: r, i, j, h => by
    simp only [fI, cond_eq_ite] at h
    split at h
    · rename_i he
      simp only [Option.some.injEq] at h
      subst h
      exact ⟨Nat.le_refl _, p, by simp, he⟩
    · obtain ⟨h1, q, h2, h3⟩ := fI_ge h
      exact ⟨by omega, q, by rw [show j - i = (j - (i + 1)) + 1 by omega]; simpa using h2, h3⟩
theorem ins_none {kt vt : Ty} {k : T kt} {v : T vt} : ∀ {l : List (T kt × T vt)} {i : Nat}, fI k l i = none → insK kt vt k v l = l ++ [(k, v)]
  | [], _, _ => rfl
  | p :: r, i, h => by
    simp only [fI, cond_eq_ite] at h
    split at h
    · simp at h
    · rename_i he
      simp only [insK, cond_eq_ite, if_neg he, ins_none h, List.cons_append]
theorem ins_some {kt vt : Ty} {k : T kt} {v : T vt} : ∀ {l : List (T kt × T vt)} {i j : Nat}, fI k l i = some j → insK kt vt k v l = l.set (j - i) (k, v)
  | [], i, j, h => by simp [fI] at h
  | p :: r, i, j, h => by
    simp only [fI, cond_eq_ite] at h
    split at h
    · rename_i he
      simp only [Option.some.injEq] at h
      subst h
      simp [insK, he]
    · rename_i he
      have h1 := (fI_ge h).1
      rw [show j - i = (j - (i + 1)) + 1 by omega]
      simp only [insK, cond_eq_ite, if_neg he, ins_some h, List.set_cons_succ]
def bis : V → Bool
  | .b _ => true
  | .i _ _ => true
  | .s _ => true
  | _ => false
theorem bits_one {c : Cx} {x : V} {x' y' : Value} (hx : VR c x x') (hy : VR c x y') (h : bis x = true) (n : Nat) : Instr.sameBits n x' y' = true := by
  cases x <;> (try (simp [bis] at h; done))
  · cases hx; cases hy; simp [Instr.sameBits]
  · cases hx; cases hy; simp [Instr.sameBits]
  · cases hx; cases hy; simp [Instr.sameBits, beq_toListBytes]
theorem unpack_bis (bor : Bool) : ∀ (t : Ty) (y : T t) (x : V), flat t = true → x ∈ unpack bor t y → bis x = true
  | .bool, y, x, _, h => by simp [unpack] at h; subst h; rfl
  | .int _, y, x, _, h => by simp [unpack] at h; subst h; rfl
  | .str, y, x, _, h => by simp [unpack] at h; subst h; rfl
  | .unit, y, x, _, h => by simp [unpack] at h
  | .prod a b, y, x, hf, h => by
    simp only [flat, Bool.and_eq_true] at hf
    simp [unpack] at h
    rcases h with h | h
    · exact unpack_bis bor a _ x hf.1 h
    · exact unpack_bis bor b _ x hf.2 h
  | .slice t, y, x, hf, h => by simp [flat] at hf
theorem bits_list {c : Cx} {n : Nat} : ∀ {u : List V} {xs ys : List Value}, VRs c u xs → VRs c u ys → (∀ x, x ∈ u → bis x = true) → ((xs.zip ys).all fun (x, y) => Instr.sameBits n x y) = true
  | [], _, _, .nil, .nil, _ => rfl
  | x :: u, _, _, .cons h1 h2, .cons h3 h4, h => by
    simp only [List.zip_cons_cons, List.all_cons, Bool.and_eq_true]
    exact ⟨bits_one h1 h3 (h x (by simp)) n, bits_list h2 h4 fun y hy => h y (by simp [hy])⟩
theorem same_key {c : Cx} {kt : Ty} (hf : flat kt = true) {k : T kt} {ka : Bool} {a : V} {x' y' : Value} (ha : V.of ka (unpack false kt k) = some a) (hx : VR c a x') (hy : VR c a y') : Instr.sameBits 10000 x' y' = true := by
  cases ka with
  | true =>
    simp only [V.of, Option.some.injEq] at ha
    subst ha
    obtain ⟨xs, rfl, h1, -⟩ := hx.agg_inv
    obtain ⟨ys, rfl, h2, -⟩ := hy.agg_inv
    show Instr.sameBits (9999 + 1) _ _ = true
    simp only [Instr.sameBits, Bool.and_eq_true, beq_iff_eq]
    exact ⟨by simp [← h1.length, ← h2.length], bits_list h1 h2 fun x hx => unpack_bis false kt k x hf hx⟩
  | false =>
    simp only [V.of] at ha
    split at ha
    · rename_i x hux
      simp only [Option.some.injEq] at ha
      subst ha
      exact bits_one hx hy (unpack_bis false kt k x hf (by rw [hux]; simp)) _
    · simp at ha
section
variable {R : Type} {H : Hk R} {r : R} {k : V → Eff → Option R} {P : Program} {F : Fence} {n : Nat} {w1 : World} {B : Nat → Prop} {M : Nat → Option Blk} {σ : Nat → Slot} {w : World} {a : Act} {o : Oper} {d : Nat} {E : Nat → Option V}
theorem one_mpu (hF : ∀ f, F.fn f) (sm : Sm w1 B M σ w) (en : EnvR (cx B M σ w) E a) {t kt' vt' : TypeId} {m x y : Operand} {m' x' y' : Opd} {ls : List Nat} {dd : Nat} (ho : o.op = .mapUpdate t m x y) (hm : opdOk m m' = true) (hx : opdOk x x' = true) (hy : opdOk y y' = true)
    (ht : P.underlying t = some (.map kt' vt')) (he : eqLv P dd kt' = some ls) (hdd : dd ≤ 10000) {ka0 : Bool} (hg : aggOf P kt' = some ka0) (h : evI H (.mpu ka0 ls m' x' y') d E M k = some r) : Snd r k P F n w1 B M σ w a o d := by
  simp only [evI] at h
  split at h
  · rename_i b hb
    split at h
    · rename_i ka va kt vt l hM
      split at h
      · rename_i kv hkv
        split at h
        · rename_i vv hvv
          simp only [cond_eq_ite, Bool.and_eq_true, beq_iff_eq, Bool.or_eq_true, List.all_eq_true, Bool.not_eq_true'] at h
          split at h
          · rename_i hc
            obtain ⟨⟨⟨⟨⟨⟨⟨⟨c0, c1⟩, c2⟩, c3⟩, c4⟩, c5⟩, c6⟩, c7⟩, c8⟩ := hc
            subst c0
            split at h
            · rename_i kk hkk
              split at h
              · rename_i vx hvx
                have em := (opd_sound en hm hb).mp_inv
                have hk' := opd_sound en hx hkv
                have hv' := opd_sound en hy hvv
                have sck : kv.cells.all scal = true := by
                  cases kv <;> first | exact agg_scal hk' | (rcases c7 with c7 | c7 <;> first | (simp [vAgg] at c7; done) | simpa [V.cells] using c7)
                have scv : vv.cells.all scal = true := by
                  cases vv <;> first | exact agg_scal hv' | (rcases c8 with c8 | c8 <;> first | (simp [vAgg] at c8; done) | simpa [V.cells] using c8)
                have hcells : kv.cells = unpack false kt kk := packAll_flat false c5 hkk
                have huk : VRs (cx B M σ w) (unpack false kt kk) (a.eval x).cells.toList := by rw [← hcells]; exact cells_sound hk' sck
                have huv : VRs (cx B M σ w) (unpack false vt vx) (a.eval y).cells.toList := packAll_sound (bor := false) hvx (cells_sound hv' scv) fun z hz hb2 => by rw [c4 z hz] at hb2; exact hb2
                obtain ⟨ak, hak, hrk⟩ := cells_of_key hk' huk (scal_unpack _ _ _) (by rw [hcells]) (fun hg2 => c7.resolve_left (by simp [hg2]))
                obtain ⟨av, hav, hrv⟩ := cells_of_key hv' huv (scal_unpack _ _ _) (by have := huv.length; have h2 := (cells_sound hv' scv).length; omega) (fun hg2 => c8.resolve_left (by simp [hg2]))
                rw [c1] at hak
                rw [c2] at hav
                obtain ⟨es, clock, hes, hmr⟩ := map_inv sm hM
                obtain ⟨fr, hfr, hfound⟩ := run_findKey (w := w) c5 hg he hdd (by rw [← hcells]; exact c6) hak hrk hmr
                obtain ⟨cs0, q1, q2, -, q4⟩ := val_inv hg (scal_unpack _ _ _) hak hrk
                have hchk : (Instr.checkKey false 10000 kt' (a.eval x)).run P w = .ok () w := by
                  have := chk_sound (P := P) dd kt' ls he false w (10000 - dd) cs0 (by rw [← q2.length, ← hcells, kinds_length c6]) q4
                  rw [Nat.sub_add_cancel hdd, q1] at this
                  exact this
                have hget : (getObj (σ b).blk).run P w = .ok (.map es clock) w := by simp [getObj, Sem.run, hes]
                have hset : ∀ ob : Obj, (setObj (σ b).blk ob).run P w = .ok () (w.putObj (σ b).blk ob) := fun ob => by simp [setObj, Sem.run, hes, World.putObj]
                have hlt : (σ b).blk < w.heap.size := (sm.base b _ hM rfl).2
                -- the end
                have fin : ∀ es' clock', (Instr.mapUpdate t (.map (some (σ b).blk)) (a.eval x) (a.eval y)).run P w = .ok () (w.putObj (σ b).blk (.map es' clock')) →
                    (∀ c' : Cx, Later (cx B M σ w) c' → c'.σ = σ → MapR c' ka va kt vt (insK kt vt kk vx l) es' clock') → Snd r k P F n w1 B M σ w a o d := by
                  intro es' clock' hrun hmap
                  simp only [cx] at em
                  refine Snd.skipped hF (by simp [ho]) h (w' := w.putObj (σ b).blk (.map es' clock')) (by simp only [execOp, ho, em, Sem.run_bind, hrun, Result.andThen_ok]; simp) ?_
                  intro _ _
                  obtain ⟨s, L⟩ := sm.set (blk := .map ka va kt vt (insK kt vt kk vx l) false) (w' := w.putObj (σ b).blk (.map es' clock')) hM rfl rfl World.putObj_size rfl rfl ⟨rfl, Nat.le_refl _⟩ (fun r hr => World.putObj_heap_other hr) (fun _ _ _ _ _ e => by cases e) (fun L => ⟨es', clock', World.putObj_heap_same hlt, hmap _ L rfl⟩)
                  exact ⟨σ, s, L, fun _ => .inl rfl, .tup [] [] .nil⟩
                unfold FoundIs at hfound
                cases hfi : fI kk l 0 with
                | none =>
                  rw [hfi] at hfound
                  simp only at hfound
                  subst hfound
                  refine fin (es.push { key := a.eval x, val := a.eval y, born := clock }) (clock + 1) ?_ fun c' L hs => ?_
                  · simp only [Instr.mapUpdate, Sem.run_bind, run_und ht, Result.andThen_ok, hget, hchk, hfr, hset]
                  · rw [ins_none hfi]
                    have hm2 := hmr.mono L
                    refine ⟨by simp [hm2.size], by simp [hm2.clock], fun j p hp => ?_⟩
                    rcases Nat.lt_trichotomy j l.length with hj | hj | hj
                    · rw [List.getElem?_append_left hj] at hp
                      obtain ⟨e, u, v, e1, e2⟩ := hm2.at_ j p hp
                      have hje : j < es.size := by rw [hm2.size]; exact hj
                      refine ⟨e, u, v, ?_, e2⟩
                      rw [Array.getElem?_push_lt hje]
                      rw [Array.getElem?_eq_getElem hje] at e1
                      exact e1
                    · subst hj
                      simp only [List.getElem?_concat_length, Option.some.injEq] at hp
                      subst hp
                      refine ⟨{ key := a.eval x, val := a.eval y, born := clock }, ak, av, by rw [← hm2.size]; simp, hm2.clock, hak, ?_, hav, ?_⟩
                      · exact hrk.later L fun _ => .inr (by rw [hs]; rfl)
                      · exact hrv.later L fun _ => .inr (by rw [hs]; rfl)
                    · rw [List.getElem?_eq_none (by simp; omega)] at hp
                      simp at hp
                | some j =>
                  rw [hfi] at hfound
                  simp only at hfound
                  obtain ⟨vv0, rfl⟩ := hfound
                  obtain ⟨-, p, hp, hpe⟩ := fI_ge hfi
                  rw [Nat.sub_zero] at hp
                  have hpk := eqT_eq kt kk p.1 c5 hpe
                  obtain ⟨e, u, v, e1, e2, e3, e4, e5, e6⟩ := hmr.at_ j p hp
                  rw [← hpk, hak] at e3
                  simp only [Option.some.injEq] at e3
                  subst e3
                  have hstay : (Instr.keyThatStays (((es[j]?).map (·.key)).getD (a.eval x)) (a.eval x)).run P w = .ok (a.eval x) w := by
                    rw [e1]
                    simp [Instr.keyThatStays, same_key c5 hak e4 hrk]
                  refine fin (es.modify j fun e => { e with key := a.eval x, val := a.eval y }) clock ?_ fun c' L hs => ?_
                  · simp only [Instr.mapUpdate, Sem.run_bind, run_und ht, Result.andThen_ok, hget, hchk, hfr, hset, hstay]
                  · rw [ins_some hfi, Nat.sub_zero]
                    have hm2 := hmr.mono L
                    refine ⟨by simp [hm2.size], by simp [hm2.clock], fun j2 p2 hp2 => ?_⟩
                    by_cases hjj : j2 = j
                    · subst hjj
                      have hjl : j2 < l.length := (List.getElem?_eq_some_iff.1 hp).1
                      rw [List.getElem?_set_self hjl] at hp2
                      simp only [Option.some.injEq] at hp2
                      subst hp2
                      refine ⟨{ e with key := a.eval x, val := a.eval y }, ak, av, by simp [Array.getElem?_modify, e1], e2, hak, ?_, hav, ?_⟩
                      · exact hrk.later L fun _ => .inr (by rw [hs]; rfl)
                      · exact hrv.later L fun _ => .inr (by rw [hs]; rfl)
                    · rw [List.getElem?_set_ne (Ne.symm hjj)] at hp2
                      obtain ⟨e', u', v', f1, f2⟩ := hm2.at_ j2 p2 hp2
                      exact ⟨e', u', v', by rw [Array.getElem?_modify, if_neg (Ne.symm hjj)]; exact f1, f2⟩
              · simp at h
            · simp at h
          · simp at h
        · simp at h
      · simp at h
    · simp at h
  · simp at h
/-- The next entry. -/
theorem one_nxt (hF : ∀ f, F.fn f) (HC : Law P H r) (sm : Sm w1 B M σ w) (en : EnvR (cx B M σ w) E a) {x : Operand} {x' : Opd} (ho : o.op = .next x false) (hx : opdOk x x' = true) (h : evI H (.nxt x') d E M k = some r) : Snd r k P F n w1 B M σ w a o d := by
  simp only [evI] at h
  split at h
  · rename_i b hb
    split at h
    · rename_i m ka va kt vt l cur hM
      have ex := (opd_sound en hx hb).it_inv
      simp only [cx] at ex
      obtain ⟨lf, es, clock, since, seen, stepped, he, hlt, hMm, hes, hr, q1, q2, q3, q4⟩ := sm.blk b _ hM
      simp only [cx] at he hlt hes
      have hborn : ∀ (i : Nat) (e : MapEntry), es[i]? = some e → e.born = i := fun i e hi => by
        have hil : i < lf.length := by rw [← hr.size]; exact (Array.getElem?_eq_some_iff.1 hi).1
        obtain ⟨e2, _, _, h1, h2, -⟩ := hr.at_ i _ (List.getElem?_eq_getElem hil)
        rw [hi] at h1
        simp only [Option.some.injEq] at h1
        rw [h1]; exact h2
      have hsz : es.size = since := by rw [hr.size, q1]
      obtain ⟨js, hjs⟩ : ∃ js, js = (List.range lf.length).filter fun j => !seen.contains j := ⟨_, rfl⟩
      rw [← hjs] at q2
      have hjs2 : js = (List.range since).filter fun j => !seen.contains j := by rw [q1]; exact hjs
      have hsome : ∀ j, j ∈ js → (lf[j]?).isSome = true := fun j hj => by
        rw [hjs] at hj
        have := List.mem_range.1 (List.mem_filter.1 hj).1
        simp [this]
      have hnd : js.Nodup := by rw [hjs]; exact List.nodup_range.filter _
      obtain ⟨r0, r1⟩ := run_nxt (isS := o.type) he hes hsz hborn (fun hs => by rw [q1]; exact q3 hs) hjs2
      have hnil : js = [] ↔ l = [] := by
        rw [q2]
        constructor
        · intro h0; rw [h0]; rfl
        · intro h0
          cases js with
          | nil => rfl
          | cons j r =>
            have := fm_get hsome 0
            rw [h0] at this
            obtain ⟨y, hy⟩ := Option.isSome_iff_exists.1 (hsome j (by simp))
            simp [hy] at this
      split at h
      · refine Snd.pure hF (by simp [ho]) sm h (v' := .tuple #[.bool false]) ?_ (.tup [.b false] [.bool false] (.cons (.b false) .nil))
        have := r0 (hnil.2 rfl) P
        simp only [execOp, ho, ex]
        simp [this]
      · rename_i hne
        obtain ⟨i, j, e, w2, e1, e2, e3, e4⟩ := r1 (fun h0 => hne (hnil.1 h0)) P
        have hjl : (lf[j]?).isSome = true := hsome j (List.mem_of_getElem? e1)
        obtain ⟨p, hp⟩ := Option.isSome_iff_exists.1 hjl
        have hli : l[i]? = some p := by rw [q2, fm_get hsome, e1]; exact hp
        have hil : i < l.length := (List.getElem?_eq_some_iff.1 hli).1
        have hthis := HC.join _ h _ (List.mem_map.2 ⟨i, List.mem_range.2 hil, rfl⟩)
        rw [hli] at hthis
        dsimp only at hthis
        obtain ⟨e', av, vv, f1, f2, f3, f4, f5, f6⟩ := hr.at_ j p hp
        rw [e2] at f1
        simp only [Option.some.injEq] at f1
        subst f1
        rw [f3, f5] at hthis
        dsimp only at hthis
        have hb2 : Below w.heap.size w w2 := by
          rcases e3 with rfl | rfl
          · exact Below.refl _ _
          · exact (Below.refl _ _).drew
        obtain ⟨s2, L2⟩ := sm.step hb2
        have hbl : (σ b).blk < w.heap.size := (sm.base b _ hM rfl).2
        refine Snd.value hF (by simp [ho]) hthis (v' := .tuple #[.bool true, e.key, e.val]) (w' := { w2 with heap := w2.heap.setIfInBounds (σ b).blk (.mapIter (some (σ m).blk) since (seen.push e.born) clock) }) (by
          simp only [execOp, ho, ex]
          simp [e4]) ?_
        intro _ _
        have hmb : ∀ o : Obj, M m = some (.map ka va kt vt lf true) → m ≠ b := fun o h1 h2 => by subst h2; rw [hM] at h1; simp at h1
        have hmne : (σ m).blk ≠ (σ b).blk := by
          rcases hMm with h1 | h1
          · intro h2
            have := sm.inj m b _ _ h1 hM rfl rfl h2
            subst this
            rw [hM] at h1
            simp at h1
          · intro h2
            exact h1 ⟨b, _, hM, rfl, h2.symm⟩
        have hbl2 : (σ b).blk < w2.heap.size := Nat.lt_of_lt_of_le hbl hb2.size
        obtain ⟨s3, L3⟩ := s2.set (blk := .itr m ka va kt vt (l.eraseIdx i) (some p)) (w' := { w2 with heap := w2.heap.setIfInBounds (σ b).blk (.mapIter (some (σ m).blk) since (seen.push e.born) clock) }) hM rfl rfl (by simp) rfl rfl ⟨rfl, Nat.le_refl _⟩ (fun r hr2 => by
          show (w2.heap.setIfInBounds _ _)[r]? = _
          rw [Array.getElem?_setIfInBounds_ne (Ne.symm hr2)]) (fun _ _ _ _ _ e => by cases e) (fun L => by
          refine ⟨lf, es, clock, since, seen.push e.born, clock, ?_, ?_, ?_, ?_, (hr.mono L2).mono L, q1, ?_, fun _ => hr.clock, fun p2 hp2 => ?_⟩
          · show (w2.heap.setIfInBounds _ _)[(σ b).blk]? = _
            exact Array.getElem?_setIfInBounds_self_of_lt hbl2
          · show (σ m).blk < (w2.heap.setIfInBounds _ _).size
            rw [Array.size_setIfInBounds]
            exact Nat.lt_of_lt_of_le hlt hb2.size
          · rcases hMm with h1 | h1
            · refine .inl ?_
              rw [up_ne _ _ (fun h2 => by subst h2; rw [hM] at h1; simp at h1)]
              exact h1
            · refine .inr ?_
              rintro ⟨k2, blk2, g1, g2, g3⟩
              by_cases hk2 : k2 = b
              · subst hk2; exact hmne g3.symm
              · rw [up_ne _ _ hk2] at g1
                exact h1 ⟨k2, blk2, g1, g2, g3⟩
          · show (w2.heap.setIfInBounds _ _)[(σ m).blk]? = _
            rw [Array.getElem?_setIfInBounds_ne (Ne.symm hmne), hb2.block _ hlt]
            exact hes
          · rw [f2, q2, fm_erase hsome]
            congr 1
            rw [← erase_at hnd e1, hjs, List.filter_filter]
            congr 1
            funext z
            simp only [Array.contains_push, Bool.not_or]
            rw [Bool.and_comm]
            rfl
          · simp only [Option.some.injEq] at hp2
            subst hp2
            exact ⟨j, hp, by rw [f2]; simp⟩)
        refine ⟨σ, s3, L2.trans L3, fun _ => .inl rfl, .tup [.b true, av, vv] [.bool true, e.key, e.val] (.cons (.b true) (.cons ?_ (.cons ?_ .nil)))⟩
        · exact (f4.later L2 fun _ => .inr rfl).later L3 fun _ => .inr rfl
        · exact (f6.later L2 fun _ => .inr rfl).later L3 fun _ => .inr rfl
    · simp at h
  · simp at h
end
end Go.Ge
