/- The instructions that read and reckon: what the evaluator says of each is what the model does. -/
import Derived.Test.YtneeobmefioenaaGeOne3
namespace Go.Ge
open Go Go.RowKit

theorem binK_ints {R : Type} {op : BinOp} {ag : Bool} {ls : List Nat} {kd kd' : IntKind} {x y : Int} {k : V → Option R} {r : R} (h : binK op ag ls (.i kd x) (.i kd' y) k = some r) {P : Program} {w : World} {c : Cx} (t : TypeId) :
    ∃ v v', k v = some r ∧ VR c v v' ∧ (binOp op t (.int kd x) (.int kd' y)).run P w = .ok v' w := by
  unfold binK at h
  cases op <;> simp only [cond_eq_ite, decide_eq_true_eq] at h <;> (repeat' split at h) <;>
    first
      | (simp at h; done)
      | (refine ⟨_, _, h, .i _ _, ?_⟩; simp_all [binOp, Op.shift, Op.intArith, Op.intDiv, Op.intBits]; done)
      | (refine ⟨_, _, h, .i _ _, ?_⟩; simp_all [binOp, Op.shift, Op.intArith, Op.intDiv, Op.intBits]; intro hh; omega)
      | (refine ⟨_, _, h, .b _, ?_⟩; simp_all [binOp, Op.intCmp]; done)
section
variable {R : Type} {H : Hk R} {r : R} {k : V → Eff → Option R} {P : Program} {F : Fence} {n : Nat} {w1 : World} {B : Nat → Prop} {M : Nat → Option Blk} {σ : Nat → Slot} {w : World} {a : Act} {o : Oper} {d : Nat} {E : Nat → Option V}
variable (hF : ∀ f, F.fn f) (hd : F.depth = none) (sm : Sm w1 B M σ w) (en : EnvR (cx B M σ w) E a)
include hF sm en

theorem one_ld {t : TypeId} {x : Operand} {y : Opd} {m : Nat} {ag : Bool} (ho : o.op = .load t x) (hx : opdOk x y = true) (ha : aggOf P t = some ag) (hn : szOf P t = some m) (h : evI H (.ld m ag y) d E M k = some r) : Snd r k P F n w1 B M σ w a o d := by
  simp only [evI] at h
  split at h
  · rename_i p hp
    obtain ⟨v, b, off, cs, cs', hk, hp', hof, hs, hv, hc, hl⟩ := ldK_spec sm (opd_sound en hx hp) h
    rcases of_sound hof hs hv with ⟨rfl, hr⟩ | ⟨rfl, z, rfl, hr⟩
    · refine Snd.pure hF (by simp [ho]) sm hk ?_ hr
      simp [execOp, ho, Instr.loadAt, hp', Instr.sureAddr, run_loadVar_agg ha hn hl hc, Result.andThen]
    · refine Snd.pure hF (by simp [ho]) sm hk ?_ hr
      simp [execOp, ho, Instr.loadAt, hp', Instr.sureAddr, run_loadVar_one ha hc, Result.andThen]
  · simp at h
theorem one_st {t : TypeId} {p x : Operand} {p' x' : Opd} {m : Nat} (ho : o.op = .store t p x) (hp : opdOk p p' = true) (hx : opdOk x x' = true) (hn : szOf P t = some m) (h : evI H (.st m p' x') d E M k = some r) : Snd r k P F n w1 B M σ w a o d := by
  simp only [evI] at h
  split at h
  · rename_i pv hpv
    split at h
    · rename_i xv hxv
      have hs : xv.cells.all scal = true := by
        simp only [stK, cond_eq_ite, Bool.and_eq_true] at h
        split at h
        · rename_i hh; exact hh.2
        · simp at h
      have vx := cells_sound (opd_sound en hx hxv) hs
      obtain ⟨b, blk, ad, w', hk, hpe, hl, hrun, hpost⟩ := stK_spec (P := P) (d := d) sm (opd_sound en hp hpv) vx h
      refine Snd.skipped hF (by simp [ho]) hk ?_ hpost
      have hl2 : (a.eval x).cells.size = m := by simpa using hl
      simp [execOp, ho, Instr.storeAt, hpe, Instr.sureAddr, storeVar, run_size hn, hl2, hrun, Result.andThen]
    · simp at h
  · simp at h
theorem one_sta {t : TypeId} {p x : Operand} {p' x' : Opd} {av : List Opd} {m : Nat} (ho : o.op = .store t p x) (hp : opdOk p p' = true) (hx : opdOk x x' = true) (hn : szOf P t = some m) (h : evI H (.sta m p' x' av) d E M k = some r) : Snd r k P F n w1 B M σ w a o d := by
  refine one_st (H := H) hF sm en ho hp hx hn ?_
  simp only [evI] at h ⊢
  split at h
  · split at h
    · split at h
      · simp only [cond_eq_ite] at h
        split at h
        · exact h
        · simp at h
      · simp at h
    · simp at h
  · simp at h
theorem one_un {op : UnOp} {t : TypeId} {x : Operand} {y : Opd} (ho : o.op = .unOp op t x) (hx : opdOk x y = true) (h : evI H (.un op y) d E M k = some r) : Snd r k P F n w1 B M σ w a o d := by
  simp only [evI] at h
  split at h
  · rename_i b hb
    have e := (opd_sound en hx hb).b_inv
    cases op <;> simp only at h <;> (try (simp at h; done))
    exact Snd.pure hF (by simp [ho]) sm h (by simp [execOp, ho, e, Op.unary, Result.andThen]) (.b _)
  · rename_i kd z hb
    have e := (opd_sound en hx hb).i_inv
    cases op <;> simp only at h <;> (try (simp at h; done))
    exact Snd.pure hF (by simp [ho]) sm h (by simp [execOp, ho, e, Op.unary, Op.intArith, Result.andThen]) (.i _ _)
  · simp at h
theorem one_cv {src dst : TypeId} {kd ks : IntKind} {x : Operand} {y : Opd} (ho : o.op = .convert src dst x) (hx : opdOk x y = true) (hs : P.underlying src = some (.int ks)) (hd2 : P.underlying dst = some (.int kd)) (h : evI H (.cv kd y) d E M k = some r) : Snd r k P F n w1 B M σ w a o d := by
  simp only [evI] at h
  split at h
  · rename_i k2 z hb
    have e := (opd_sound en hx hb).i_inv
    exact Snd.pure hF (by simp [ho]) sm h (by simp [execOp, ho, e, convert, run_und hs, run_und hd2, Conv.intToInt, Result.andThen]) (.i _ _)
  · simp at h
theorem one_mf {f : Nat} {first : Array Operand} {caps : Array Operand} {cs : List Opd} (ho : o.op = .makeFunc (.func f) first caps) (hfst : first.size = 0) (hx : opdsOk caps.toList cs = true) (h : evI H (.mf f cs) d E M k = some r) : Snd r k P F n w1 B M σ w a o d := by
  simp only [evI] at h
  split at h
  · rename_i vs hvs
    have e : first = #[] := by simpa using hfst
    refine Snd.pure hF (by simp [ho]) sm h (v' := .func (.func f) #[] (caps.toList.map a.eval).toArray) ?_ (.fn _ _ _ (opds_sound en hx hvs))
    have e2 : Array.map a.eval caps = (caps.toList.map a.eval).toArray := by
      apply Array.ext'; simp
    simp [execOp, ho, e, e2, Instr.makeFunc, Result.andThen]
  · simp at h
theorem one_ex {x : Operand} {y : Opd} {j : Nat} (ho : o.op = .extract x j) (hx : opdOk x y = true) (h : evI H (.ex y j) d E M k = some r) : Snd r k P F n w1 B M σ w a o d := by
  simp only [evI] at h
  split at h
  · rename_i vs hb
    obtain ⟨cs', e, hv⟩ := (opd_sound en hx hb).tup_inv
    split at h
    · rename_i v hj
      obtain ⟨v', hj', hr⟩ := hv.get hj
      exact Snd.pure hF (by simp [ho]) sm h (by simp [execOp, ho, e, Instr.extract, hj', Result.andThen]) hr
    · simp at h
  · simp at h
theorem one_nck {x : Operand} {y : Opd} (ho : o.op = .nilCheck x) (hx : opdOk x y = true) (h : evI H (.nck y) d E M k = some r) : Snd r k P F n w1 B M σ w a o d := by
  simp only [evI] at h
  split at h
  · rename_i p q hb
    have e := (opd_sound en hx hb)
    have e2 := e.pb_inv
    exact Snd.pure hF (by simp [ho]) sm h (v' := a.eval x) (by simp [execOp, ho, e2]) e
  · rename_i p q s u hb
    have e := (opd_sound en hx hb)
    have e2 := e.pr_inv
    exact Snd.pure hF (by simp [ho]) sm h (v' := a.eval x) (by simp [execOp, ho, e2]) e
  · rename_i cs q bo hb
    have e := (opd_sound en hx hb)
    obtain ⟨blk, off, cs', e2, _⟩ := e.pc_inv
    exact Snd.pure hF (by simp [ho]) sm h (v' := a.eval x) (by simp [execOp, ho, e2]) e
  · simp at h
theorem one_fa {t : TypeId} {x : Operand} {y : Opd} {f off m : Nat} {fs : Array Field} {fl : Field} (ho : o.op = .fieldAddr t x f) (hx : opdOk x y = true) (ht : P.underlying t = some (.struct fs)) (hf : fs[f]? = some fl) (hn : szOf P fl.type = some m) (hm : m ≠ 0) (hof : fl.offset = off)
    (h : evI H (.fa off y) d E M k = some r) : Snd r k P F n w1 B M σ w a o d := by
  subst hof
  have go : ∀ (b q : Nat) (v : V), a.eval x = .pointer (some ⟨b, q, none⟩) → VR (cx B M σ w) v (.pointer (some ⟨b, q + fl.offset, none⟩)) → k v {} = some r → Snd r k P F n w1 B M σ w a o d := fun b q v e hv hk =>
    Snd.pure hF (by simp [ho]) sm hk (by simp [execOp, ho, e, Instr.fieldAt, run_und ht, hf, Instr.sureAddr, fieldPlace, run_size hn, hm, add_at, Result.andThen]) hv
  simp only [evI] at h
  split at h
  · rename_i p q hb
    have e := (opd_sound en hx hb).pb_inv
    exact go _ _ _ e (.pb _ _) h
  · rename_i p q s u hb
    have e := (opd_sound en hx hb).pr_inv
    refine go _ _ _ e ?_ h
    rw [Nat.add_assoc]
    exact .pr _ _ _ _
  · rename_i cs q bo hb
    obtain ⟨blk, off, cs', e2, h1, h2, h3, h4, h5, h6⟩ := (opd_sound en hx hb).pc_inv
    refine go _ _ _ e2 ?_ h
    rw [Nat.add_assoc]
    exact .pc _ _ _ _ _ _ h1 h2 h3 h4 h5 h6
  · simp at h
theorem one_fd {t : TypeId} {x : Operand} {y : Opd} {f off m : Nat} {ag : Bool} {fs : Array Field} {fl : Field} (ho : o.op = .field t x f) (hx : opdOk x y = true) (ht : P.underlying t = some (.struct fs)) (hf : fs[f]? = some fl) (ha : aggOf P fl.type = some ag) (hn : szOf P fl.type = some m) (hof : fl.offset = off)
    (h : evI H (.fd off m ag y) d E M k = some r) : Snd r k P F n w1 B M σ w a o d := by
  subst hof
  simp only [evI] at h
  split at h
  · rename_i cs hb
    have hv := opd_sound en hx hb
    obtain ⟨cs', e, hvs, hs⟩ := hv.agg_inv
    split at h
    · rename_i m2 hc
      split at h
      · rename_i v hof
        obtain ⟨v', hr, hv'⟩ := part_sound (P := P) (w := w) hvs hs hc hof ha hn
        exact Snd.pure hF (by simp [ho]) sm h (by simp [execOp, ho, e, Instr.field, run_und ht, hf, asAgg, hr, Result.andThen]) hv'
      · simp at h
    · simp at h
  · simp at h
theorem one_ixv {t e2 : TypeId} {x i : Operand} {x' i' : Opd} {len m : Nat} {ag : Bool} (ho : o.op = .index t x i) (hx : opdOk x x' = true) (hi : opdOk i i' = true) (ht : P.underlying t = some (.array len e2)) (ha : aggOf P e2 = some ag) (hn : szOf P e2 = some m)
    (h : evI H (.ixv len m ag x' i') d E M k = some r) : Snd r k P F n w1 B M σ w a o d := by
  simp only [evI] at h
  split at h
  · rename_i kd z hz
    have ei := (opd_sound en hi hz).i_inv
    simp only [cond_eq_ite, Bool.and_eq_true, decide_eq_true_eq] at h
    split at h
    · rename_i hb
      split at h
      · rename_i cs hcs
        obtain ⟨cs', e, hvs, hs⟩ := (opd_sound en hx hcs).agg_inv
        split at h
        · rename_i m2 hc
          split at h
          · rename_i v hof
            obtain ⟨v', hr, hv'⟩ := part_sound (P := P) (w := w) hvs hs hc hof ha hn
            exact Snd.pure hF (by simp [ho]) sm h (by simp [execOp, ho, e, ei, Instr.index, asIntOf, run_und ht, run_size hn, hb, hr, Result.andThen]) hv'
          · simp at h
        · simp at h
      · simp at h
    · simp at h
  · simp at h
theorem one_ixp {t e2 : TypeId} {x i : Operand} {x' i' : Opd} {len m : Nat} (ho : o.op = .indexAddr t x i) (hx : opdOk x x' = true) (hi : opdOk i i' = true) (ht : P.underlying t = some (.array len e2)) (hn : szOf P e2 = some m)
    (h : evI H (.ixp len m x' i') d E M k = some r) : Snd r k P F n w1 B M σ w a o d := by
  simp only [evI] at h
  split at h
  · rename_i kd z hz
    have ei := (opd_sound en hi hz).i_inv
    simp only [cond_eq_ite, Bool.and_eq_true, decide_eq_true_eq] at h
    split at h
    · rename_i hb
      have go : ∀ (b q : Nat) (v : V), a.eval x = .pointer (some ⟨b, q, none⟩) → VR (cx B M σ w) v (.pointer (some ⟨b, q + z.toNat * m, none⟩)) → k v {} = some r → Snd r k P F n w1 B M σ w a o d := fun b q v e hv hk =>
        Snd.pure hF (by simp [ho]) sm hk (by simp [execOp, ho, e, ei, Instr.indexAt, asIntOf, run_und ht, Instr.sureAddr, run_size hn, hb, add_at, Result.andThen]) hv
      split at h
      · rename_i p q hb
        have e := (opd_sound en hx hb).pb_inv
        exact go _ _ _ e (.pb _ _) h
      · rename_i p q s u hb
        have e := (opd_sound en hx hb).pr_inv
        refine go _ _ _ e ?_ h
        rw [Nat.add_assoc]
        exact .pr _ _ _ _
      · rename_i cs q bo hb
        obtain ⟨blk, off, cs', e2, h1, h2, h3, h4, h5, h6⟩ := (opd_sound en hx hb).pc_inv
        refine go _ _ _ e2 ?_ h
        rw [Nat.add_assoc]
        exact .pc _ _ _ _ _ _ h1 h2 h3 h4 h5 h6
      · simp at h
    · simp at h
  · simp at h
theorem one_ixs {t e2 : TypeId} {x i : Operand} {x' i' : Opd} {m : Nat} (ho : o.op = .indexAddr t x i) (hx : opdOk x x' = true) (hi : opdOk i i' = true) (ht : P.underlying t = some (.slice e2)) (hn : szOf P e2 = some m)
    (h : evI H (.ixs m x' i') d E M k = some r) : Snd r k P F n w1 B M σ w a o d := by
  simp only [evI] at h
  split at h
  · rename_i kd z hz
    have ei := (opd_sound en hi hz).i_inv
    have go : ∀ (b q len cap : Nat) (v : V), a.eval x = .slice (some ⟨b, q, none⟩) len cap → 0 ≤ z → z < len → VR (cx B M σ w) v (.pointer (some ⟨b, q + z.toNat * m, none⟩)) → k v {} = some r → Snd r k P F n w1 B M σ w a o d := fun b q len cap v e h0 h1 hv hk =>
      Snd.pure hF (by simp [ho]) sm hk (by simp [execOp, ho, e, ei, Instr.indexAt, asIntOf, run_und ht, run_size hn, h0, h1, add_at, Result.andThen]) hv
    split at h
    · rename_i ty l bo ex hxv
      simp only [cond_eq_ite, Nat.beq_eq, decide_eq_true_eq] at h
      split at h
      · rename_i hsz
        split at h
        · rename_i h0
          split at h
          · rename_i y hy
            obtain ⟨a', cap, e, hcap, hex, hl⟩ := (opd_sound en hx hxv).sl_inv
            have hlt : z.toNat < l.length := (List.getElem?_eq_some_iff.1 hy).1
            rcases hl with rfl | ⟨blk, off, cs, rfl, hb1, hb2, hb3, hc, hv⟩
            · simp at hlt
            · obtain ⟨pp, qq, hfl, hpl, _, _⟩ := flatMap_at (unpack bo ty) (length_unpack bo ty) hy
              rw [hfl] at hv
              obtain ⟨a1, q', rfl, ha1, hq'⟩ := VRs.split hv
              obtain ⟨p', u', rfl, hp', hu'⟩ := VRs.split ha1
              refine go _ _ _ _ _ e h0 (by omega) ?_ h
              have hcm := hc.mid
              rw [← hp'.length, hpl, hsz] at hcm
              have := VR.pc (c := cx B M σ w) (unpack bo ty y) 0 bo blk (off + z.toNat * m) u' hb1 hb2 hb3 (scal_unpack _ _ _) hcm hu'
              simpa using this
          · simp at h
        · simp at h
      · simp at h
    · rename_i b hxv
      split at h
      · rename_i ty l hM
        simp only [cond_eq_ite, Bool.and_eq_true, Nat.beq_eq, decide_eq_true_eq] at h
        split at h
        · rename_i hb
          obtain ⟨⟨hsz, h0⟩, hlt⟩ := hb
          have hblk := sm.blk b _ hM
          cases l with
          | nil => simp at hlt
          | cons y ys =>
            obtain ⟨cs', rest, e3, cap, he, hvs, hsv, hcap, hszz⟩ := hblk
            have e := (opd_sound en hx hxv).bs_inv
            rw [hsv] at e
            refine go _ _ _ _ _ e h0 (by omega) ?_ h
            have := VR.pr (c := cx B M σ w) b z.toNat (tsize ty) 0
            rw [hsz] at this ⊢
            simpa [cx] using this
        · simp at h
      · simp at h
    · simp at h
  · simp at h
theorem one_bin {op : BinOp} {ag : Bool} {ls : List Nat} {t yt : TypeId} {x y : Operand} {x' y' : Opd} {D : Nat} (ho : o.op = .binOp op t x y yt) (hx : opdOk x x' = true) (hy : opdOk y y' = true)
    (hls : (op = .eql ∨ op = .neq) → D ≤ 10000 ∧ eqLv P D t = some ls ∧ aggOf P t = some ag ∧ P.eqGuardType P.depth t = false) (h : evI H (.bin op ag ls x' y') d E M k = some r) : Snd r k P F n w1 B M σ w a o d := by
  simp only [evI] at h
  split at h
  · rename_i xv hxv
    split at h
    · rename_i yv hyv
      have vx := opd_sound en hx hxv
      have vy := opd_sound en hy hyv
      have go : ∀ (v : V) (v' : Value), k v {} = some r → VR (cx B M σ w) v v' → (binOp op t (a.eval x) (a.eval y)).run P w = .ok v' w → (eqGuard op t x y (a.eval x) (a.eval y)).run P w = .ok () w → Snd r k P F n w1 B M σ w a o d := fun v v' hk hv hb hg =>
        Snd.pure hF (by simp [ho]) sm hk (by simp [execOp, ho, hb, hg]) hv
      cases xv <;> cases yv <;> (try (simp [binK] at h; done))
      case b.b p q =>
        have ex := vx.b_inv
        have ey := vy.b_inv
        have hg : (eqGuard op t x y (a.eval x) (a.eval y)).run P w = .ok () w := by rw [ex, ey]; cases op <;> simp [eqGuard]
        simp only [binK, cond_eq_ite, Bool.and_eq_true, Bool.not_eq_true'] at h
        split at h
        · rename_i hc
          have ht : (op = .eql ∨ op = .neq) → P.underlying t = some .bool := by
            intro hop
            obtain ⟨_, h1, h2, _⟩ := hls hop
            have hl := kinds_length hc.2
            have hk := hc.2
            cases ls with
            | nil => simp at hl
            | cons l0 ls0 =>
              cases ls0 with
              | cons _ _ => simp at hl
              | nil =>
                simp only [kinds, kind1, Bool.and_true, Nat.beq_eq] at hk
                subst hk
                cases D with
                | zero => simp [eqLv] at h1
                | succ D =>
                  unfold eqLv at h1
                  split at h1
                  · assumption
                  · simp at h1
                  · simp at h1
                  · rename_i hu; simp [aggOf, hu, hc.1] at h2
                  · rename_i hu; simp [aggOf, hu, hc.1] at h2
                  · simp at h1
          cases op <;> simp only at h <;> (try (simp at h; done))
          · exact go _ _ h (.b _) (by rw [ex, ey]; simp [binOp, run_equal_bool w t p q (ht (.inl rfl))]) hg
          · exact go _ _ h (.b _) (by rw [ex, ey]; simp [binOp, run_equal_bool w t p q (ht (.inr rfl))]) hg
        · simp at h
      case i.i k1 p k2 q =>
        have ex := vx.i_inv
        have ey := vy.i_inv
        obtain ⟨v, v', hk, hv, hb⟩ := binK_ints (P := P) (w := w) (c := cx B M σ w) h t
        exact go v v' hk hv (by rw [ex, ey]; exact hb) (by rw [ex, ey]; cases op <;> simp [eqGuard])
      case s.s p q =>
        have ex := vx.s_inv
        have ey := vy.s_inv
        have hg : (eqGuard op t x y (a.eval x) (a.eval y)).run P w = .ok () w := by rw [ex, ey]; cases op <;> simp [eqGuard]
        simp only [binK] at h
        cases op <;> simp only at h <;> (try (simp at h; done))
        · simp only [cond_eq_ite, decide_eq_true_eq] at h
          split at h
          · rename_i hsz
            refine go _ _ h (.s _) ?_ hg
            have : ¬ ((p.size + q.size : Nat) : Int) > IntKind.i64.max := by
              have : IntKind.i64.max = 9223372036854775807 := by decide
              omega
            rw [ex, ey]; simp only [binOp, Op.stringOp, if_neg this]; rfl
          · simp at h
        · exact go _ _ h (.b _) (by rw [ex, ey]; simp [binOp, Op.stringOp]) hg
        · exact go _ _ h (.b _) (by rw [ex, ey]; simp [binOp, Op.stringOp]) hg
      case agg.agg p q =>
        obtain ⟨p', ex, vp, sp⟩ := vx.agg_inv
        obtain ⟨q', ey, vq, sq⟩ := vy.agg_inv
        simp only [binK, cond_eq_ite, Bool.and_eq_true] at h
        split at h
        · rename_i hc
          have key : ∀ e, (op = .eql ∨ op = .neq) → eqCs p q = some e → (Op.equalIn 10000 t (.agg p'.toArray) (.agg q'.toArray)).run P w = .ok e w ∧ (eqGuard op t x y (a.eval x) (a.eval y)).run P w = .ok () w := by
            intro e hop he
            obtain ⟨h0, h1, h2, h3⟩ := hls hop
            rw [hc.1] at h2
            exact ⟨eq_agg h0 h1 h2 hc.2 (eqCs_kinds he hc.2) vp vq he, by rw [ex, ey]; exact run_eqGuard_agg w op t x y _ _ h3⟩
          cases op <;> simp only at h <;> (try (simp at h; done))
          · split at h
            · rename_i e he
              obtain ⟨h1, h2⟩ := key e (.inl rfl) he
              exact go _ _ h (.b _) (by rw [ex, ey, run_eql_struct, h1]; rfl) h2
            · simp at h
          · split at h
            · rename_i e he
              obtain ⟨h1, h2⟩ := key e (.inr rfl) he
              exact go _ _ h (.b _) (by rw [ex, ey, run_neq_struct, h1]; rfl) h2
            · simp at h
        · simp at h
    · simp at h
  · simp at h
end
end Go.Ge
