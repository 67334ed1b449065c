/- Lengths, least and greatest, parts of slices. -/
import Derived.Test.YtneeobmefioenaaGeOne4
namespace Go.Ge
open Go Go.RowKit

def opdoOk : Option Operand → Option Opd → Bool
  | none, none => true
  | some x, some y => opdOk x y
  | _, _ => false
theorem run_max {P : Program} {w : World} {kd : IntKind} {c : Cx} : ∀ {l : List V} {l' : List Value} {r : List Int} {a : Int}, VRs c l l' → ints l = some r → (l'.foldlM Builtin.max2 (.int kd a)).run P w = .ok (.int kd (r.foldl mxI a)) w
  | _, _, _, a, .nil, h => by simp [ints] at h; subst h; simp
  | _, _, r, a, .cons (x := x) hx hs, h => by
    cases x <;> simp only [ints] at h <;> (try (simp at h; done))
    split at h
    · rename_i r2 hr2
      simp only [Option.some.injEq] at h
      subst h
      have e := hx.i_inv
      subst e
      simp only [List.foldlM_cons, Sem.run_bind, Builtin.max2, Sem.run_pure, Result.andThen_ok, List.foldl_cons, mxI]
      exact run_max hs hr2
    · simp at h
theorem run_min {P : Program} {w : World} {kd : IntKind} {c : Cx} : ∀ {l : List V} {l' : List Value} {r : List Int} {a : Int}, VRs c l l' → ints l = some r → (l'.foldlM Builtin.min2 (.int kd a)).run P w = .ok (.int kd (r.foldl mnI a)) w
  | _, _, _, a, .nil, h => by simp [ints] at h; subst h; simp
  | _, _, r, a, .cons (x := x) hx hs, h => by
    cases x <;> simp only [ints] at h <;> (try (simp at h; done))
    split at h
    · rename_i r2 hr2
      simp only [Option.some.injEq] at h
      subst h
      have e := hx.i_inv
      subst e
      simp only [List.foldlM_cons, Sem.run_bind, Builtin.min2, Sem.run_pure, Result.andThen_ok, List.foldl_cons, mnI]
      exact run_min hs hr2
    · simp at h
/-- The two ways that a slice's value lies. -/
theorem row_inv {R : Type} {r : R} {B : Nat → Prop} {M : Nat → Option Blk} {σ : Nat → Slot} {w1 w : World} (sm : Sm w1 B M σ w) {x : V} {x' : Value} (hx : VR (cx B M σ w) x x') {kk : (t : Ty) → List (T t) → Bool → Option R} (h : rowK M x kk = some r) :
    ∃ t l bor a cap, kk t l bor = some r ∧ x' = .slice a l.length cap ∧ l.length ≤ cap ∧ (l = [] ∨ ∃ blk off cs, a = some ⟨blk, off, none⟩ ∧ blk < w.heap.size ∧ Cells w blk off cs ∧ VRs (cx B M σ w) (l.flatMap (unpack bor t)) cs) := by
  unfold rowK at h
  split at h
  · rename_i t l b e
    obtain ⟨a', cap, e2, hcap, -, hl⟩ := hx.sl_inv
    refine ⟨t, l, b, a', cap, h, e2, hcap, hl.imp id ?_⟩
    rintro ⟨blk, off, cs, h1, h2, -, -, h5, h6⟩
    exact ⟨blk, off, cs, h1, h2, h5, h6⟩
  · rename_i b
    split at h
    · rename_i t l hM
      have e := hx.bs_inv
      have hblk := sm.blk b _ hM
      cases l with
      | nil =>
        obtain ⟨a, ha⟩ := hblk
        rw [ha] at e
        exact ⟨t, [], false, a, 0, h, e, by simp, .inl rfl⟩
      | cons y ys =>
        obtain ⟨cs', rest, e3, cap, he, hvs, hsv, hcap, hszz⟩ := hblk
        rw [hsv] at e
        exact ⟨t, y :: ys, false, _, cap, h, e, hcap, .inr ⟨_, 0, cs', rfl, lt_of_heap he, take_cells he, hvs⟩⟩
    · simp at h
  · simp at h
section
variable {R : Type} {H : Hk R} {r : R} {k : V → Eff → Option R} {P : Program} {F : Fence} {n : Nat} {w1 : World} {B : Nat → Prop} {M : Nat → Option Blk} {σ : Nat → Slot} {w : World} {a : Act} {o : Oper} {d : Nat} {E : Nat → Option V}
variable (hF : ∀ f, F.fn f) (hd : F.depth = none) (sm : Sm w1 B M σ w) (en : EnvR (cx B M σ w) E a)
include hF sm en

theorem one_len {c : Call} {x : Operand} {y : Opd} {t : TypeId} {str : Bool} (ho : o.op = .call c) (hc : c.callee = .builtin .len) (ha : c.args = #[x]) (ht : c.argTypes[0]? = some t)
    (hu : (str = true → P.underlying t = some .string) ∧ (str = false → ∃ e, P.underlying t = some (.slice e))) (hx : opdOk x y = true) (h : evI H (.len str y) d E M k = some r) : Snd r k P F n w1 B M σ w a o d := by
  cases str with
  | true =>
    have hu := hu.1 rfl
    simp only [evI] at h
    split at h
    · rename_i b hb
      have e := (opd_sound en hx hb).s_inv
      exact Snd.pure hF (by simp [ho]) sm h (by simp [execOp, ho, resolve, hc, ha, e, invoke, builtin, Builtin.len_, ht, run_und hu, goInt]) (.i _ _)
    · simp at h
  | false =>
    obtain ⟨e2, hu⟩ := hu.2 rfl
    simp only [evI] at h
    split at h
    · rename_i xv hxv
      obtain ⟨t2, l, bor, a', cap, hk, e, _, _⟩ := row_inv sm (opd_sound en hx hxv) h
      exact Snd.pure hF (by simp [ho]) sm hk (by simp [execOp, ho, resolve, hc, ha, e, invoke, builtin, Builtin.len_, ht, run_und hu, goInt]) (.i _ _)
    · simp at h
theorem one_mx {c : Call} {l : List Opd} (ho : o.op = .call c) (hc : c.callee = .builtin .max) (hx : opdsOk c.args.toList l = true) (h : evI H (.mx l) d E M k = some r) : Snd r k P F n w1 B M σ w a o d := by
  simp only [evI] at h
  split at h
  · rename_i kd z rest hvs
    split at h
    · rename_i r2 hr2
      have hv := opds_sound en hx hvs
      generalize hl : c.args.toList.map a.eval = l' at hv
      cases hv with
      | cons h1 h2 =>
        have e := h1.i_inv
        subst e
        refine Snd.pure hF (by simp [ho]) sm h ?_ (.i kd _)
        have e2 : (c.args.map a.eval).toList = c.args.toList.map a.eval := by simp
        rw [hl] at e2
        simp only [execOp, ho, resolve, hc, Sem.run_bind, Sem.run_pure, Result.andThen_ok, invoke, builtin, Builtin.max_, e2, run_max h2 hr2]
    · simp at h
  · simp at h
theorem one_mn {c : Call} {l : List Opd} (ho : o.op = .call c) (hc : c.callee = .builtin .min) (hx : opdsOk c.args.toList l = true) (h : evI H (.mn l) d E M k = some r) : Snd r k P F n w1 B M σ w a o d := by
  simp only [evI] at h
  split at h
  · rename_i kd z rest hvs
    split at h
    · rename_i r2 hr2
      have hv := opds_sound en hx hvs
      generalize hl : c.args.toList.map a.eval = l' at hv
      cases hv with
      | cons h1 h2 =>
        have e := h1.i_inv
        subst e
        refine Snd.pure hF (by simp [ho]) sm h ?_ (.i kd _)
        have e2 : (c.args.map a.eval).toList = c.args.toList.map a.eval := by simp
        rw [hl] at e2
        simp only [execOp, ho, resolve, hc, Sem.run_bind, Sem.run_pure, Result.andThen_ok, invoke, builtin, Builtin.min_, e2, run_min h2 hr2]
    · simp at h
  · simp at h
theorem one_s2a {t e2 : TypeId} {x : Operand} {y : Opd} {m : Nat} (ho : o.op = .sliceToArrayPointer t x) (hx : opdOk x y = true) (ht : P.underlying t = some (.array m e2)) (hm : m ≠ 0) (h : evI H (.s2a m y) d E M k = some r) : Snd r k P F n w1 B M σ w a o d := by
  simp only [evI] at h
  split at h
  · rename_i ty l bo ex hxv
    simp only [cond_eq_ite, Nat.ble_eq] at h
    split at h
    · rename_i hle
      obtain ⟨a', cap, e, hcap, hex, hl⟩ := (opd_sound en hx hxv).sl_inv
      rcases hl with rfl | ⟨blk, off, cs, rfl, hb1, hb2, hb3, hc, hv⟩
      · simp at hle; exact absurd hle hm
      · rw [← List.take_append_drop m l, List.flatMap_append] at hv
        obtain ⟨p', q', rfl, hp', hq'⟩ := VRs.split hv
        have hall : ((l.take m).flatMap (unpack bo ty)).all scal = true := by
          rw [List.all_eq_true]
          intro z hz
          simp only [List.mem_flatMap] at hz
          obtain ⟨y2, _, hy⟩ := hz
          exact List.all_eq_true.1 (scal_unpack bo ty y2) z hy
        have hc1 : Cells (cx B M σ w).w blk off p' := by
          have := Cells.mid (p := []) (m := p') (q := q') (by simpa using hc)
          simpa using this
        refine Snd.pure hF (by simp [ho]) sm h (v' := .pointer (some ⟨blk, off, none⟩)) ?_ (by simpa using VR.pc (c := cx B M σ w) _ 0 bo blk off p' hb1 hb2 hb3 hall hc1 hp')
        simp [execOp, ho, e, Instr.arrayAt, run_und ht, Nat.not_lt.2 hle]
    · simp at h
  · simp at h

omit hF sm in
theorem intO_sound {x : Option Operand} {y : Option Opd} (hx : opdoOk x y = true) {df z : Int} (h : intO E y df = some z) :
    (x.map a.eval = none ∧ y = none ∧ z = df) ∨ (∃ kd, x.map a.eval = some (.int kd z) ∧ y.isSome = true) := by
  cases x <;> cases y <;> simp only [intO, opdoOk] at h hx <;> (try (simp at hx; done))
  · exact .inl ⟨rfl, rfl, by simpa using h.symm⟩
  · split at h
    · rename_i kd z2 hz
      simp only [Option.some.injEq] at h
      subst h
      exact .inr ⟨kd, by simp [(opd_sound en hx hz).i_inv], rfl⟩
    · simp at h
omit en sm hF in
theorem run_bound {kd : IntKind} {z : Int} {y : Nat} {code : BoundsCode} (h0 : 0 ≤ z) (h1 : z ≤ y) : (Instr.sliceBound (.int kd z) y code).run P w = .ok z.toNat w := by
  simp [Instr.sliceBound, asIntOf, h0, h1]
theorem one_slc {t e2 : TypeId} {x : Operand} {y : Opd} {lo hi mx : Option Operand} {lo' hi' mx' : Option Opd} {m : Nat} (ho : o.op = .slice t x lo hi mx) (hx : opdOk x y = true)
    (hlo : opdoOk lo lo' = true) (hhi : opdoOk hi hi' = true) (hmx : opdoOk mx mx' = true) (hmh : mx'.isSome = true → hi'.isSome = true) (ht : P.underlying t = some (.slice e2)) (hn : szOf P e2 = some m)
    (h : evI H (.slc m y lo' hi' mx') d E M k = some r) : Snd r k P F n w1 B M σ w a o d := by
  simp only [evI] at h
  split at h
  · rename_i ty l bo ex hxv
    obtain ⟨a', cap, e, hcap, hex, hl⟩ := (opd_sound en hx hxv).sl_inv
    split at h
    · rename_i av hav
      split at h
      · rename_i hv hhv
        simp only [cond_eq_ite, Bool.and_eq_true, Nat.beq_eq, decide_eq_true_eq] at h
        split at h
        · rename_i hb
          obtain ⟨⟨⟨hsz, h0⟩, h1⟩, h2⟩ := hb
          -- the value
          have val : ∀ (mm : Nat) (ex' : Bool), hv.toNat ≤ mm → mm ≤ cap → (ex' = true → mm = hv.toNat ∨ (mm = cap ∧ cap = l.length ∧ hv = l.length)) →
              VR (cx B M σ w) (.sl ty ((l.take hv.toNat).drop av.toNat) bo ex') (.slice (if mm = av.toNat then a' else a'.map (·.add (av.toNat * m))) (hv.toNat - av.toNat) (mm - av.toNat)) := by
            intro mm ex' hm1 hm2 hxx
            have hlen : ((l.take hv.toNat).drop av.toNat).length = hv.toNat - av.toNat := by simp; omega
            rw [← hlen]
            by_cases hnil : (l.take hv.toNat).drop av.toNat = []
            · rw [hnil] at hlen ⊢
              simp only [List.length_nil] at hlen
              refine .slE _ _ _ _ _ fun hh => ?_
              rcases hxx hh with h9 | ⟨h9, h10, h11⟩ <;> omega
            · have hlt : av.toNat < hv.toNat := by
                rcases Nat.lt_or_ge av.toNat hv.toNat with h9 | h9
                · exact h9
                · exact absurd (List.eq_nil_of_length_eq_zero (by omega)) hnil
              rcases hl with rfl | ⟨blk, off, cs, rfl, hb1, hb2, hb3, hc, hvs⟩
              · simp at h2; omega
              · rw [if_neg (by omega)]
                simp only [Option.map_some, add_at]
                have hsplit : l = l.take av.toNat ++ (l.take hv.toNat).drop av.toNat ++ l.drop hv.toNat := by
                  have h3 : l.take hv.toNat = (l.take hv.toNat).take av.toNat ++ (l.take hv.toNat).drop av.toNat := (List.take_append_drop _ _).symm
                  rw [List.take_take, Nat.min_eq_left (by omega)] at h3
                  rw [← h3, List.take_append_drop]
                have hfl : l.flatMap (unpack bo ty) = (l.take av.toNat).flatMap (unpack bo ty) ++ ((l.take hv.toNat).drop av.toNat).flatMap (unpack bo ty) ++ (l.drop hv.toNat).flatMap (unpack bo ty) := by
                  conv => lhs; rw [hsplit]
                  simp
                rw [hfl] at hvs
                obtain ⟨a1, q', rfl, ha1, hq'⟩ := VRs.split hvs
                obtain ⟨p', u', rfl, hp', hu'⟩ := VRs.split ha1
                have hcm := hc.mid
                have hpl : p'.length = av.toNat * m := by rw [← hp'.length, length_flat, hsz]; simp; rw [Nat.min_eq_left (by omega)]
                rw [hpl] at hcm
                refine .slN ty _ bo ex' blk _ _ u' hb1 hb2 hb3 (by omega) (fun hh => ?_) hcm hu'
                rcases hxx hh with h9 | ⟨h9, h10, h11⟩ <;> omega
          have go : ∀ (mm : Nat) (ex' : Bool), hv.toNat ≤ mm → mm ≤ cap → (ex' = true → mm = hv.toNat ∨ (mm = cap ∧ cap = l.length ∧ hv = l.length)) → k (.sl ty ((l.take hv.toNat).drop av.toNat) bo ex') {} = some r →
              (Instr.sliceBounds true l.length cap (lo.map a.eval) (hi.map a.eval) (mx.map a.eval)).run P w = .ok (av.toNat, hv.toNat, mm) w → Snd r k P F n w1 B M σ w a o d := fun mm ex' q1 q2 q3 hk hr =>
            Snd.pure hF (by simp [ho]) sm hk (by simp [execOp, ho, e, Instr.sliceAt, run_und ht, Instr.slice, hr, run_size hn]) (val mm ex' q1 q2 q3)
          have rlo := intO_sound en hlo hav
          have rhi := intO_sound en hhi hhv
          split at h
          · -- no third bound
            have emx : mx.map a.eval = none := by cases mx <;> simp_all [opdoOk]
            refine go cap _ (by omega) (Nat.le_refl _) (fun hh => ?_) h ?_
            · simp only [Bool.and_eq_true] at hh
              rcases rhi with ⟨q1, q2, q3⟩ | ⟨kd, q1, q2⟩
              · exact .inr ⟨rfl, hex hh.1, q3⟩
              · rw [Option.isNone_iff_eq_none] at hh; rw [hh.2] at q2; simp at q2
            · rcases rlo with ⟨q1, q2, q3⟩ | ⟨kd, q1, q2⟩ <;> rcases rhi with ⟨p1, p2, p3⟩ | ⟨kd2, p1, p2⟩
              · subst q3 p3; simp [Instr.sliceBounds, emx, q1, p1]
              · subst q3
                have := run_bound (P := P) (w := w) (kd := kd2) (y := cap) (code := .sliceAcap) (z := hv) (by omega) (by omega)
                simp [Instr.sliceBounds, emx, q1, p1, this]
              · subst p3
                have := run_bound (P := P) (w := w) (kd := kd) (y := l.length) (code := .sliceB) (z := av) (by omega) (by omega)
                simp [Instr.sliceBounds, emx, q1, p1, this]
              · have t1 := run_bound (P := P) (w := w) (kd := kd2) (y := cap) (code := .sliceAcap) (z := hv) (by omega) (by omega)
                have t2 := run_bound (P := P) (w := w) (kd := kd) (y := hv.toNat) (code := .sliceB) (z := av) (by omega) (by omega)
                simp [Instr.sliceBounds, emx, q1, p1, t1, t2]
          · rename_i om
            split at h
            · rename_i kd3 mv hmv
              simp only [beq_iff_eq] at h
              split at h
              · rename_i hmeq
                subst hmeq
                cases mx with
                | none => simp [opdoOk] at hmx
                | some xm =>
                  have em := (opd_sound en (by simpa [opdoOk] using hmx) hmv).i_inv
                  rcases rhi with ⟨p1, p2, p3⟩ | ⟨kd2, p1, p2⟩
                  · rw [p2] at hmh; simp at hmh
                  · refine go mv.toNat true (Nat.le_refl _) (by omega) (fun _ => .inl rfl) h ?_
                    have t0 := run_bound (P := P) (w := w) (kd := kd3) (y := cap) (code := .slice3Acap) (z := mv) (by omega) (by omega)
                    have t1 := run_bound (P := P) (w := w) (kd := kd2) (y := mv.toNat) (code := .slice3B) (z := mv) (by omega) (by omega)
                    rcases rlo with ⟨q1, q2, q3⟩ | ⟨kd, q1, q2⟩
                    · subst q3; simp [Instr.sliceBounds, em, q1, p1, t0, t1]
                    · have t2 := run_bound (P := P) (w := w) (kd := kd) (y := mv.toNat) (code := .slice3C) (z := av) (by omega) (by omega)
                      simp [Instr.sliceBounds, em, q1, p1, t0, t1, t2]
              · simp at h
            · simp at h
        · simp at h
      · simp at h
    · simp at h
  · simp at h
end
end Go.Ge
