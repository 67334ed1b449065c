/- Blocks that are written no more; regions in the order of their text. -/
import Derived.Test.YtneeobmefioenaaGeCode1
namespace Go.Ge
open Go Go.RowKit

theorem frzB_real {k : Nat} {blk b1 b2 : Blk} (h : frzB k blk b1 = some b2) : b2.real = b1.real := by
  cases b1 <;> simp only [frzB, cond_eq_ite] at h <;> (repeat' split at h) <;> first | (simp at h; done) | (simp only [Option.some.injEq] at h; subst h; rfl)
theorem frz_vars {c c2 : Cx} {k : Nat} {blk : Blk} {e e2 : List (Nat × V)} {tm : Array Value} (he : mapO (frzE k blk) e = some e2) (snd : ∀ v v2 v', frzV k blk 5 v = some v2 → VR c v v' → VR c2 v2 v') (h : VarsR c e tm) : VarsR c2 e2 tm := by
  have hE := lk_map (frzE k blk) (fun p q hq => by
    unfold frzE at hq; split at hq
    · simp only [Option.some.injEq] at hq; rw [← hq]
    · simp at hq) he
  intro t u hu
  cases hb : lk t e with
  | none => have := (hE t).2 hb; rw [this] at hu; simp at hu
  | some v =>
    obtain ⟨u2, hu1, hu2⟩ := (hE t).1 v hb
    rw [hu2] at hu
    simp only [Option.some.injEq] at hu
    subst hu
    obtain ⟨v', h1, h2⟩ := h t v hb
    unfold frzE at hu1
    split at hu1
    · rename_i b3 hb3
      simp only [Option.some.injEq, Prod.mk.injEq, true_and] at hu1
      subst hu1
      exact ⟨v', h1, snd v _ v' hb3 h2⟩
    · simp at hu1
section
variable {w1 : World} {B : Nat → Prop} {N : Nat} {D : Fr} {env env' : Env} {mem mem' : Mem} {σ : Nat → Slot} {w : World} {a : Act}
theorem frz_state {k : Nat} (h : frz k env mem = some (env', mem')) (st : St w1 B N D env mem σ a w) : St w1 B N D env' mem' σ a w := by
  unfold frz at h
  split at h
  · rename_i blk hk
    split at h
    · rename_i e2 he
      split at h
      · rename_i m2 hm
        simp only [Option.some.injEq, Prod.mk.injEq] at h
        obtain ⟨rfl, rfl⟩ := h
        have hE := lk_map (frzE k blk) (fun p q hq => by
          unfold frzE at hq; split at hq
          · simp only [Option.some.injEq] at hq; rw [← hq]
          · simp at hq) he
        have hM := lk_map (frzM k blk) (fun p q hq => by
          unfold frzM at hq; split at hq
          · simp only [Option.some.injEq] at hq; rw [← hq]
          · simp at hq) hm
        -- memory
        have mem1 : ∀ x b2, lk x m2 = some b2 → x ≠ k ∧ ∃ b1, lk x mem = some b1 ∧ frzB k blk b1 = some b2 := by
          intro x b2 hx
          by_cases hxk : x = k
          · have := (hM x).2 (by rw [lk_del, if_pos hxk]); rw [this] at hx; simp at hx
          · cases hb : lk x mem with
            | none => have := (hM x).2 (by rw [lk_del, if_neg hxk]; exact hb); rw [this] at hx; simp at hx
            | some b1 =>
              obtain ⟨u, hu1, hu2⟩ := (hM x).1 b1 (by rw [lk_del, if_neg hxk]; exact hb)
              rw [hu2] at hx
              simp only [Option.some.injEq] at hx
              subst hx
              unfold frzM at hu1
              split at hu1
              · rename_i b3 hb3
                simp only [Option.some.injEq, Prod.mk.injEq, true_and] at hu1
                subst hu1
                exact ⟨hxk, b1, rfl, hb3⟩
              · simp at hu1
        have mem2 : ∀ x b1, x ≠ k → lk x mem = some b1 → ∃ b2, lk x m2 = some b2 ∧ frzB k blk b1 = some b2 := by
          intro x b1 hxk hb
          obtain ⟨u, hu1, hu2⟩ := (hM x).1 b1 (by rw [lk_del, if_neg hxk]; exact hb)
          unfold frzM at hu1
          split at hu1
          · rename_i b3 hb3
            simp only [Option.some.injEq, Prod.mk.injEq, true_and] at hu1
            subst hu1
            exact ⟨_, hu2, hb3⟩
          · simp at hu1
        have L : Later (cx B (eM mem) σ w) (cx B (eM m2) σ w) := by
          refine ⟨Nat.le_refl _, fun _ _ _ => rfl, ?_, fun _ _ h => .inl h⟩
          rintro r hr ⟨x, b2, e1, e2, e3⟩
          obtain ⟨-, b1, e4, e5⟩ := mem1 x b2 e1
          exact ⟨x, b1, e4, by rw [← frzB_real e5]; exact e2, e3⟩
        have hno : blk.real = true → ¬ (cx B (eM m2) σ w).own (σ k).blk := by
          rintro hr ⟨x, b2, e1, e2, e3⟩
          obtain ⟨hne, b1, e4, e5⟩ := mem1 x b2 e1
          exact hne (st.sm.inj x k b1 blk e4 hk (by rw [← frzB_real e5]; exact e2) hr e3)
        have hbase : blk.real = true → ¬ (cx B (eM mem) σ w).B ((cx B (eM mem) σ w).σ k).blk := fun hr hB => by
          have h1 := st.sm.bB _ hB
          have h2 := (st.sm.base k blk hk hr).1
          simp only [cx] at h1
          omega
        have snd := frzV_sound (c := cx B (eM mem) σ w) (c2 := cx B (eM m2) σ w) (M := eM mem) (k := k) (blk := blk) hk (st.sm.blk k blk hk) hbase L rfl rfl hno (fun _ h => h)
        refine ⟨?_, ⟨st.sm.below, st.sm.bB, ?_, ?_, ?_⟩, st.fr.later L rfl rfl fun _ _ _ => rfl⟩
        · intro t u hu
          cases hb : lk t env with
          | none => have := (hE t).2 hb; simp only [eE] at hu; rw [this] at hu; simp at hu
          | some v =>
            obtain ⟨u2, hu1, hu2⟩ := (hE t).1 v hb
            simp only [eE] at hu
            rw [hu2] at hu
            simp only [Option.some.injEq] at hu
            subst hu
            obtain ⟨v', h1, h2⟩ := st.en t v hb
            unfold frzE at hu1
            split at hu1
            · rename_i b3 hb3
              simp only [Option.some.injEq, Prod.mk.injEq, true_and] at hu1
              subst hu1
              exact ⟨v', h1, snd 5 v _ v' hb3 h2⟩
            · simp at hu1
        · intro x b2 e1 e2
          obtain ⟨-, b1, e4, e5⟩ := mem1 x b2 e1
          exact st.sm.base x b1 e4 (by rw [← frzB_real e5]; exact e2)
        · intro x x' b2 b2' e1 e1' e2 e2' e3
          obtain ⟨-, b1, e4, e5⟩ := mem1 x b2 e1
          obtain ⟨-, b1', e4', e5'⟩ := mem1 x' b2' e1'
          exact st.sm.inj x x' b1 b1' e4 e4' (by rw [← frzB_real e5]; exact e2) (by rw [← frzB_real e5']; exact e2') e3
        · intro x b2 e1
          obtain ⟨-, b1, e4, e5⟩ := mem1 x b2 e1
          have hb := st.sm.blk x b1 e4
          cases b1 with
          | cells cs =>
            simp only [frzB] at e5
            split at e5
            · rename_i cs2 hcs
              simp only [Option.some.injEq] at e5
              subst e5
              obtain ⟨h1, cs', ty, h2, h3⟩ := hb
              exact ⟨mapO_all hcs fun y z hy e => frzV_scal e (List.all_eq_true.1 h1 y hy), cs', ty, h2, mapO_VRs hcs h3 fun y z y' _ e r => snd 5 y z y' e r⟩
            · simp at e5
          | row t l =>
            simp only [frzB, Option.some.injEq] at e5
            subst e5
            cases l with
            | nil => exact hb
            | cons y ys =>
              obtain ⟨cs', rest, ty, cap, h1, h2, h3, h4, h5⟩ := hb
              exact ⟨cs', rest, ty, cap, h1, rowVals_later L h2, h3, h4, h5⟩
          | buf t =>
            simp only [frzB, Option.some.injEq] at e5
            subst e5
            exact hb
          | map ka va kt vt l lo =>
            simp only [frzB, Option.some.injEq] at e5
            subst e5
            obtain ⟨es, clock, h1, h2⟩ := hb
            exact ⟨es, clock, h1, h2.mono L⟩
          | stk e =>
            simp only [frzB] at e5
            split at e5
            · rename_i e2 he2
              simp only [Option.some.injEq] at e5
              subst e5
              exact frz_vars he2 (fun v v2 v' => snd 5 v v2 v') hb
            · simp at e5
          | lp ls e =>
            simp only [frzB] at e5
            split at e5
            · rename_i e2 he2
              simp only [Option.some.injEq] at e5
              subst e5
              obtain ⟨Lp, h1, h2, h3⟩ := hb
              exact ⟨Lp, h1, h2, frz_vars he2 (fun v v2 v' => snd 5 v v2 v') h3⟩
            · simp at e5
          | itr m ka va kt vt l cur =>
            simp only [frzB, cond_eq_ite, Nat.beq_eq] at e5
            split at e5
            · simp at e5
            · rename_i hmk
              simp only [Option.some.injEq] at e5
              subst e5
              obtain ⟨lf, es, clock, since, seen, stepped, he, hlt, hMm, hes, hr, q1, q2, q3, q4⟩ := hb
              refine ⟨lf, es, clock, since, seen, stepped, he, hlt, ?_, hes, hr.mono L, q1, q2, q3, q4⟩
              rcases hMm with h6 | h6
              · obtain ⟨b3, h7, h8⟩ := mem2 m _ (fun e => hmk e.symm) h6
                simp only [frzB, Option.some.injEq] at h8
                subst h8
                exact .inl h7
              · exact .inr fun h => h6 (L.own _ hlt h)
      · simp at h
    · simp at h
  · simp only [Option.some.injEq, Prod.mk.injEq] at h
    obtain ⟨rfl, rfl⟩ := h
    exact st
theorem frzs_state : ∀ {ks : List Nat} {env env' : Env} {mem mem' : Mem}, frzs ks env mem = some (env', mem') → St w1 B N D env mem σ a w → St w1 B N D env' mem' σ a w
  | [], env, env', mem, mem', h, st => by simp only [frzs, Option.some.injEq, Prod.mk.injEq] at h; obtain ⟨rfl, rfl⟩ := h; exact st
  | k :: r, env, env', mem, mem', h, st => by
    simp only [frzs] at h
    split at h
    · rename_i e m hk
      exact frzs_state h (frz_state hk st)
    · simp at h
theorem lk_drp {α : Type} : ∀ {ks : List Nat} {l : List (Nat × α)} {x : Nat} {v : α}, lk x (drp ks l) = some v → lk x l = some v
  | [], _, _, _, h => h
  | k :: r, l, x, v, h => by
    have := lk_drp (ks := r) (l := del k l) h
    rw [lk_del] at this
    split at this
    · simp at this
    · exact this
theorem sel_state {live drop : List Nat} (st : St w1 B N D env mem σ a w) : St w1 B N D (sel live env) (drp drop mem) σ a w := by
  obtain ⟨s, L⟩ := st.sm.restrict (M' := eM (drp drop mem)) fun k b h => lk_drp h
  refine ⟨fun t v h => ?_, s, st.fr.later L rfl rfl fun _ _ _ => rfl⟩
  obtain ⟨v', h1, h2⟩ := st.en t v (lk_sel h)
  exact ⟨v', h1, h2.later L fun _ => .inr rfl⟩
end
def gOk (ops : Array Oper) (g : Option (Nat × Bool)) (x : Option (Nat × Bool)) : Bool :=
  match g, x with
  | none, none => true
  | some (j, b), some (t, b') => (match ops[j]? with | some oj => (match oj.dst with | some d => Nat.beq d t | none => false) | none => false) && b == b'
  | _, _ => false
def dstOk (N : Nat) (d : Option Nat) (x : Option Nat) : Bool :=
  match d, x with
  | none, none => true
  | some a, some b => Nat.beq a b && Nat.blt a N
  | _, _ => false
theorem dstOk_eq {N : Nat} {d x : Option Nat} (h : dstOk N d x = true) : d = x ∧ ∀ y, x = some y → y < N := by
  cases d <;> cases x <;> simp only [dstOk, Bool.and_eq_true, Nat.beq_eq] at h
  · exact ⟨rfl, by simp⟩
  · simp at h
  · simp at h
  · obtain ⟨rfl, h2⟩ := h
    exact ⟨rfl, fun y hy => by simp only [Option.some.injEq] at hy; subst hy; simpa [Nat.blt_eq] using h2⟩
def mcOk (o : Oper) (f : Opd) (ys : List Opd) : Bool :=
  match o.op with
  | .call c => (match c.callee with | .value x => opdOk x f | _ => false) && opdsOk c.args.toList ys
  | _ => false
def iOk (P : Program) (o : Oper) (i : I) : Bool :=
  match mcO i with
  | some p => mcOk o p.1 p.2
  | none => instOk P o i
def iiOk (P : Program) (N : Nat) (ops : Array Oper) (o : Oper) (x : II) : Bool := dstOk N o.dst x.dst && gOk ops o.guard x.g && iOk P o x.i
def iisOk (P : Program) (N : Nat) (ops : Array Oper) : List Oper → List II → Bool
  | [], [] => true
  | o :: r, x :: s => iiOk P N ops o x && iisOk P N ops r s
  | _, _ => false
section
variable {R : Type} {H : Hk R} {r : R} {P : Program} {F : Fence} {n : Nat} {w1 : World} {B : Nat → Prop} {N : Nat} {D : Fr} {env : Env} {mem : Mem} {σ : Nat → Slot} {w : World} {a : Act}
theorem eE_same {t : Nat} {v : V} {env : Env} (h : lk t env = some v) : eE (put t v env) = eE env := by
  funext u
  simp only [eE, lk_put]
  split
  · rename_i e; subst e; exact h.symm
  · rfl
/-- What a guard says is said of the same variables. -/
theorem want_cmt {g : Option (Nat × Bool)} {env : Env} {kk : Bool → Option R} (h : want (fun t => lk t env) g kk = some r) : ∃ w, kk w = some r ∧ eE (cmt g w env) = eE env ∧ ∀ kk2 : Bool → Option R, want (fun t => lk t env) g kk2 = kk2 w := by
  unfold want at h
  split at h
  · exact ⟨true, h, rfl, fun _ => rfl⟩
  · rename_i t gw
    split at h
    · rename_i x hx
      have key : ∀ w, (bif gw then x else !x) = w → eE (cmt (some (t, gw)) w env) = eE env := by
        intro w hw
        simp only [cmt, hx]
        have : (bif w then gw else !gw) = x := by subst hw; cases gw <;> cases x <;> rfl
        rw [this]
        exact eE_same hx
      cases hb : (bif gw then x else !x) with
      | true =>
        rw [hb, cond_true] at h
        exact ⟨true, h, key _ hb, fun kk2 => by simp only [want, hx, hb, cond_true]⟩
      | false =>
        rw [hb, cond_false] at h
        exact ⟨false, h, key _ hb, fun kk2 => by simp only [want, hx, hb, cond_false]⟩
    · rename_i l hx
      exact ⟨false, h, by simp only [cmt, hx], fun kk2 => by simp only [want, hx]⟩
    · simp at h
theorem St.cmt {g : Option (Nat × Bool)} {b : Bool} {env : Env} (st : St w1 B N D env mem σ a w) (h : eE (cmt g b env) = eE env) : St w1 B N D (Ge.cmt g b env) mem σ a w := ⟨by rw [h]; exact st.en, st.sm, st.fr⟩
theorem want_sound {c : Cx} {ops : Array Oper} {o : Oper} {g : Option (Nat × Bool)} {kk : Bool → Option R} (hg : gOk ops o.guard g = true) (en : EnvR c (eE env) a) (h : want (fun t => lk t env) g kk = some r) :
    kk (Region.wanted o (yielded ops a.tmps)) = some r := by
  unfold want at h
  split at h
  · unfold gOk at hg
    split at hg
    · rename_i h1 _; simpa [Region.wanted, h1] using h
    · rename_i hx; simp at hx
    · simp at hg
  · rename_i t wn
    unfold gOk at hg
    split at hg
    · rename_i hx; simp at hx
    · rename_i j b t2 b2 hgo hx
      simp only [Option.some.injEq, Prod.mk.injEq] at hx
      obtain ⟨rfl, rfl⟩ := hx
      simp only [Bool.and_eq_true, beq_iff_eq] at hg
      obtain ⟨hg, rfl⟩ := hg
      split at hg
      · rename_i oj hoj
        split at hg
        · rename_i dd hdd
          simp only [Nat.beq_eq] at hg
          subst hg
          have hy : ∀ v', a.tmps[dd]? = some v' → yielded ops a.tmps j = (match v' with | .bool b => some b | _ => none) := by
            intro v' hv
            simp only [yielded, hoj, hdd, Option.bind_some, hv]
            cases v' <;> rfl
          split at h
          · rename_i x hx
            obtain ⟨v', h1, h2⟩ := en dd _ hx
            have := h2.b_inv
            subst this
            have e := hy _ h1
            simp only at e
            have hw : Region.wanted o (yielded ops a.tmps) = (x == b) := by simp [Region.wanted, hgo, e]
            rw [hw]
            cases b <;> cases x <;> simpa using h
          · rename_i l hx
            obtain ⟨v', h1, h2⟩ := en dd _ hx
            obtain ⟨cs', rfl, -⟩ := h2.tup_inv
            have e := hy _ h1
            simp only at e
            have hw : Region.wanted o (yielded ops a.tmps) = false := by simp [Region.wanted, hgo, e]
            rw [hw]
            exact h
          · simp at h
        · simp at hg
      · simp at hg
    · simp at hg
/-- An instruction that is not wanted. -/
theorem skip_state {d : Option Nat} (st : St w1 B N D env mem σ a w) (hd : ∀ x, d = some x → x < N) : St w1 B N D (putO d (.tup []) env) mem σ (a.put d undef) w :=
  ⟨EnvR.putO (fun x hx => by rw [st.size]; exact hd x hx) st.en (fun t u _ h => ⟨h, fun _ h => h⟩) (.tup [] [] .nil), st.sm, st.fr.later (Later.refl _) put_size put_defers fun _ _ _ => rfl⟩
/-- Behind a call that shares the blocks. -/
def MPost (w1 : World) (B : Nat → Prop) (d : Nat) (mem : Mem) (σ : Nat → Slot) (w : World) (G : V → Mem → Prop) (e : Ending) (w' : World) : Prop :=
  ∃ v v' mem' σ', e = .returned v' ∧ Sm w1 B (eM mem') σ' w' ∧ Later (cx B (eM mem) σ w) (cx B (eM mem') σ' w') ∧ StkSame d σ σ' ∧ VR (cx B (eM mem') σ' w') v v' ∧ G v mem'
/-- What a call of yield must hold to. -/
def YLaw (P : Program) (w1 : World) (B : Nat → Prop) {R : Type} (r : R) (Y : Yt R) (d0 : Nat) (σ0 : Nat → Slot) : Prop :=
  ∀ q vs d mem kk, d0 ≤ d → Y q vs d mem kk = some r → ∀ (σ : Nat → Slot) (w : World) (args' : List Value) (n : Nat), Sm w1 B (eM mem) σ w → StkSame d0 σ0 σ → VRs (cx B (eM mem) σ w) vs args' →
    YieldAt Fence.wide n P (σ q).blk args'.toArray w (MPost w1 B d mem σ w fun v mem' => kk v mem' = some r)
def YEx {R : Type} (r : R) (Y : Yt R) : Prop := ∀ q vs d mem kk, Y q vs d mem kk = some r → ∃ v mem', kk v mem' = some r
theorem YLaw.later {P : Program} {w1 : World} {B : Nat → Prop} {R : Type} {r : R} {Y : Yt R} {d0 d1 : Nat} {σ0 σ1 : Nat → Slot} (h : YLaw P w1 B r Y d0 σ0) (hd : d0 ≤ d1) (hs : StkSame d0 σ0 σ1) : YLaw P w1 B r Y d1 σ1 :=
  fun q vs d mem kk h1 h2 σ w args' n h3 h4 h5 => h q vs d mem kk (Nat.le_trans hd h1) h2 σ w args' n h3 (hs.trans (h4.mono hd)) h5
/-- What the hook for calls that share the blocks must hold to. -/
structure MLaw {R : Type} (P : Program) (H : Hk R) (r : R) : Prop where
  enters : ∀ Y g vs d mem kk, H.M Y g vs d mem kk = some r → ∃ fn, P.funcs[g]? = some fn ∧ (fn.name == "runtime.NumGoroutine") = false ∧ fn.body.isNone = false
  calls : ∀ Y g vs d mem kk, H.M Y g vs d mem kk = some r → ∀ (w1 : World) (B : Nat → Prop) (σ : Nat → Slot) (w : World) (args' : List Value) (n : Nat), YLaw P w1 B r Y d σ → Sm w1 B (eM mem) σ w → VRs (cx B (eM mem) σ w) vs args' →
    CallsIn Fence.wide n P g args'.toArray w (MPost w1 B d mem σ w fun v mem' => kk v mem' = some r)
  ex : ∀ Y g vs d mem kk, H.M Y g vs d mem kk = some r → YEx r Y → ∃ v mem', kk v mem' = some r
theorem eM_put {k : Nat} {b : Blk} {mem : Mem} : eM (put k b mem) = up (eM mem) k (some b) := by
  funext x
  simp only [eM, lk_put, up]
theorem big_ne {dp k : Nat} (h : k < BIG + dp) : k ≠ BIG + dp := by omega
/-- The frame's variables, laid among the blocks. -/
theorem stash (st : St w1 B N D env mem σ a w) (hf : free (BIG + D.dp) env mem = true) :
    ∃ σ1, Sm w1 B (eM (put (BIG + D.dp) (.stk env) mem)) σ1 w ∧ Later (cx B (eM mem) σ w) (cx B (eM (put (BIG + D.dp) (.stk env) mem)) σ1 w) ∧ StkSame D.dp σ σ1 ∧ (σ1 (BIG + D.dp)).tm = a.tmps ∧
      EnvR (cx B (eM (put (BIG + D.dp) (.stk env) mem)) σ1 w) (eE env) a := by
  obtain ⟨hf1, hf2⟩ := free_env hf
  have key : ∀ {c' : Cx}, Later (cx B (eM mem) σ w) c' → (∀ k, k ≠ BIG + D.dp → c'.σ k = σ k) → EnvR c' (eE env) a := fun L hσ t v ht => by
    obtain ⟨v', h1, h2⟩ := st.en t v ht
    refine ⟨v', h1, h2.later L fun k => ?_⟩
    by_cases hk : k = BIG + D.dp
    · subst hk; exact .inl ⟨5, hf1 t v ht⟩
    · exact .inr (hσ k hk)
  obtain ⟨s, L⟩ := st.sm.new (Below.refl _ _) (BIG + D.dp) { blk := 0, tm := a.tmps } (.stk env) (fun h => by simp [Blk.real] at h) (fun k b h1 h2 => hf2 k b h1 h2) (fun L => by
    show VarsR _ env _
    have := key L (fun k hk => up_ne _ _ hk)
    simp only [cx, up_same]
    exact this)
  rw [eM_put]
  refine ⟨_, s, L, fun k _ h2 => up_ne _ _ (big_ne h2), by simp [up_same], key L fun k hk => up_ne _ _ hk⟩
/-- A call that shares the blocks. -/
theorem mc_sound (hF : Open F) (HM : MLaw P H r) {Y : Yt R} (hY : YLaw P w1 B r Y D.dp D.c0.σ) (st : St w1 B N D env mem σ a w) {o : Oper} {f : Opd} {ys : List Opd} (hok : mcOk o f ys = true) {k : V → Env → Mem → Option R} (h : mcK H Y D.dp f ys env mem k = some r)
    {K : Act → World → Prop} {Q : Go.Exit → Act → World → Prop}
    (hK : ∀ v v' env' mem' σ' w', k v env' mem' = some r → VR (cx B (eM mem') σ' w') v v' → St w1 B N D env' mem' σ' a w' → K (a.put o.dst v') w') : o.wpIn F n P a w K Q := by
  unfold mcOk at hok
  split at hok
  · rename_i c ho
    simp only [Bool.and_eq_true] at hok
    obtain ⟨hc0, hy⟩ := hok
    split at hc0
    · rename_i x hc
      unfold mcK at h
      simp only [cond_eq_ite, Bool.and_eq_true] at h
      split at h
      · rename_i hfr
        obtain ⟨σ1, s1, L1, hs1, htm, en1⟩ := stash st hfr.1
        -- the end of both
        have fin : ∀ e w', MPost w1 B (D.dp + 1) (put (BIG + D.dp) (.stk env) mem) σ1 w (fun v mem' => mcE (BIG + D.dp) k v mem' = some r) e w' → ∃ v', e = .returned v' ∧ K (a.put o.dst v') w' := by
          rintro e w' ⟨v, v', mem', σ2, rfl, s2, L2, hs2, hv, hk⟩
          refine ⟨v', rfl, ?_⟩
          unfold mcE at hk
          split at hk
          · rename_i env' hq
            have hσq : σ2 (BIG + D.dp) = σ1 (BIG + D.dp) := hs2 _ (by omega) (by omega)
            have hvars : VarsR (cx B (eM mem') σ2 w') env' (σ2 (BIG + D.dp)).tm := s2.blk _ _ hq
            rw [hσq, htm] at hvars
            obtain ⟨s3, L3⟩ := s2.restrict (M' := eM (del (BIG + D.dp) mem')) fun k b hb => by
              simp only [eM, lk_del] at hb
              split at hb
              · simp at hb
              · exact hb
            refine hK v v' env' _ σ2 w' hk (hv.later L3 fun _ => .inr rfl) ⟨fun t u ht => ?_, s3, st.fr.later ((L1.trans L2).trans L3) rfl rfl (hs1.trans (hs2.mono (by omega)))⟩
            obtain ⟨u', h1, h2⟩ := hvars t u ht
            exact ⟨u', h1, h2.later L3 fun _ => .inr rfl⟩
          · simp at hk
        have hYl : YLaw P w1 B r Y (D.dp + 1) σ1 := hY.later (by omega) (st.fr.stk.trans hs1)
        split at h
        · rename_i g caps hf
          split at h
          · rename_i vs hvs
            obtain ⟨caps', ef, hcaps⟩ := (opd_sound en1 hc0 hf).fn_inv
            have hargs := (opds_sound en1 hy hvs).append hcaps
            obtain ⟨fn, hfn, hname, hbody⟩ := HM.enters _ _ _ _ _ _ h
            have hcall := HM.calls _ _ _ _ _ _ h w1 B σ1 w _ (n - 1) hYl s1 hargs
            have hrun : (execOp a.eval o).run P w = .ok (.enter g (c.args.toList.map a.eval ++ caps').toArray) w := by
              have e1 : (c.args.map a.eval) ++ caps'.toArray = (c.args.toList.map a.eval ++ caps').toArray := by
                apply Array.ext'; simp
              simp only [execOp, ho, resolve, hc, ef, Deferred.ofValue, Sem.run_bind, Sem.run_pure, Result.andThen_ok, invoke, callFunc, run_program, hfn, hname, hbody]
              simp [← e1]
            refine ⟨fun f _ => hF.fn f, ?_⟩
            rw [semAt_exec (by simp [ho]), hrun, Oper.uponIn_enter]
            refine ⟨fun h => by rw [hF.depth] at h; simp at h, (hF.calls hcall).mono fun e w' hp => ?_⟩
            obtain ⟨v', rfl, hk⟩ := fin e w' hp
            exact hk
          · simp at h
        · rename_i q hf
          split at h
          · rename_i vs hvs
            have ef : a.eval x = .func (.yield (σ1 q).blk) #[] #[] := (opd_sound en1 hc0 hf).yf_inv
            have hargs := opds_sound en1 hy hvs
            obtain ⟨fn, tmps, asg, body, hy1, hround⟩ := hYl q vs (D.dp + 1) _ _ (Nat.le_refl _) h σ1 w _ (n - 1) s1 (fun _ _ _ => rfl) hargs
            have hrun : (execOp a.eval o).run P w = .ok (.round (σ1 q).blk fn tmps asg body) w := by
              have e1 : c.args.map a.eval = (c.args.toList.map a.eval).toArray := by
                apply Array.ext'; simp
              simp only [execOp, ho, resolve, hc, ef, Deferred.ofValue, Sem.run_bind, Sem.run_pure, Result.andThen_ok, invoke]
              simp only [e1, Array.append_empty, Array.empty_append]
              exact hy1
            refine ⟨fun f _ => hF.fn f, ?_⟩
            rw [semAt_exec (by simp [ho]), hrun, Oper.uponIn_round]
            refine ⟨fun h => by rw [hF.depth] at h; simp at h, (hF.rounds hround).mono fun e w' hp => ?_⟩
            obtain ⟨v', rfl, hk⟩ := fin e w' hp
            exact hk
          · simp at h
        · simp at h
      · simp at h
    · simp at hc0
  · simp at hok
/-- A region, in the order of its text. -/
theorem evIs_sound (hF : Open F) (HC : Law P H r) (HM : MLaw P H r) {Y : Yt R} (hY : YLaw P w1 B r Y D.dp D.c0.σ) {Q : Exit → Act → World → Prop} {opsA : Array Oper} : ∀ {ops : List Oper} {is : List II} {env : Env} {mem : Mem} {σ : Nat → Slot} {a : Act} {w : World} {kk : Env → Mem → Option R},
    iisOk P N opsA ops is = true → evIs H Y D.dp is env mem kk = some r → St w1 B N D env mem σ a w → (∀ env' mem' σ' a' w', kk env' mem' = some r → St w1 B N D env' mem' σ' a' w' → Q .normal a' w') → wpListIn F n P opsA Q ops a w
  | [], [], env, mem, σ, a, w, kk, _, h, st, hQ => hQ _ _ _ _ _ h st
  | o :: ro, x :: rx, env, mem, σ, a, w, kk, ho, h, st, hQ => by
    simp only [iisOk, Bool.and_eq_true] at ho
    obtain ⟨hx, hr⟩ := ho
    simp only [iiOk, Bool.and_eq_true] at hx
    obtain ⟨⟨h1, h2⟩, h3⟩ := hx
    obtain ⟨hdst, hlt⟩ := dstOk_eq h1
    simp only [evIs] at h
    split at h
    · rename_i env1 mem1 hfz
      have st0 := frzs_state hfz st
      obtain ⟨wb, hw0, hcm, hall⟩ := want_cmt h
      have hwd0 : Region.wanted o (yielded opsA a.tmps) = wb := by
        have h9 := want_sound (r := r) (kk := fun b => if b = wb then some r else none) h2 st0.en (by rw [hall]; simp)
        split at h9
        · assumption
        · simp at h9
      have st1 := st0.cmt hcm
      have hw := hw0
      rw [← hwd0] at hw st1
      refine wpListIn_step fun K hK => ?_
      cases hwd : Region.wanted o (yielded opsA a.tmps) with
      | true =>
        rw [hwd] at hw st1
        simp only [if_true]
        dsimp only at hw
        unfold iOk at h3
        cases hmc : mcO x.i with
        | some p =>
          rw [hmc] at hw h3
          refine mc_sound hF HM hY st1 h3 hw fun v v' env2 mem2 σ2 w' hk hv st2 => ?_
          rw [hdst]
          refine hK _ _ (evIs_sound (σ := σ2) hF HC HM hY hr hk ?_ hQ)
          exact ⟨EnvR.putO (fun y hy => by rw [st2.size]; exact hlt y hy) st2.en (fun t u _ h => ⟨h, fun _ h => h⟩) hv, st2.sm, st2.fr.later (Later.refl _) put_size put_defers fun _ _ _ => rfl⟩
        | none =>
        rw [hmc] at hw h3
        refine inst_sound hF HC st1.sm st1.en h3 hw K Q fun v e v' w' hk hp => ?_
        obtain ⟨env2, mem2, σ2, hk2, st2⟩ := apply_sound st1 hlt hk hp
        rw [hdst]
        exact hK _ _ (evIs_sound hF HC HM hY hr hk2 st2 hQ)
      | false =>
        rw [hwd] at hw st1
        simp only [Bool.false_eq_true, if_false]
        refine ⟨fun f _ => hF.fn f, ?_⟩
        rw [hdst]
        exact hK _ _ (evIs_sound hF HC HM hY hr hw (skip_state st1 hlt) hQ)
    · simp at h
  | [], _ :: _, _, _, _, _, _, _, ho, _, _, _ => by simp [iisOk] at ho
  | _ :: _, [], _, _, _, _, _, _, ho, _, _, _ => by simp [iisOk] at ho
end
end Go.Ge
