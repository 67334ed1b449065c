/- The state behind each instruction; regions in the order of their text. -/
import Derived.Test.YtneeobmefioenaaGeOne9
namespace Go.Ge
open Go Go.RowKit

def eE (env : Env) : Nat → Option V := fun t => lk t env
def eM (mem : Mem) : Nat → Option Blk := fun k => lk k mem
/-- A frame: the moment when it began, how many frames and loops stood. -/
structure Fr where
  c0 : Cx
  dp : Nat
/-- The names of the frames and loops that stand lie where they lay. -/
def StkSame (d : Nat) (σ σ' : Nat → Slot) : Prop := ∀ k, BIG ≤ k → k < BIG + d → σ' k = σ k
theorem StkSame.trans {d : Nat} {a b c : Nat → Slot} (h : StkSame d a b) (h' : StkSame d b c) : StkSame d a c := fun k h1 h2 => (h' k h1 h2).trans (h k h1 h2)
theorem StkSame.mono {d d' : Nat} {a b : Nat → Slot} (h : StkSame d a b) (hd : d' ≤ d) : StkSame d' a b := fun k h1 h2 => h k h1 (by omega)
def markOf (r : Nat) : Deferred := { target := .collected r, args := #[] }
/-- The marks of the loops that a frame has gone through. -/
def MarksOk (n1 : Nat) (c : Cx) (ds : List Deferred) : Prop := ∃ rs : List Nat, ds = rs.map markOf ∧ rs.Nodup ∧ ∀ r, r ∈ rs → n1 ≤ r ∧ c.w.heap[r]? = some (.deferred (some [])) ∧ ¬ c.own r
theorem MarksOk.later {n1 : Nat} {c c' : Cx} {ds : List Deferred} (L : Later c c') (h : MarksOk n1 c ds) : MarksOk n1 c' ds := by
  obtain ⟨rs, h1, h2, h3⟩ := h
  refine ⟨rs, h1, h2, fun r hr => ?_⟩
  obtain ⟨h4, h5, h6⟩ := h3 r hr
  have hlt : r < c.w.heap.size := (Array.getElem?_eq_some_iff.1 h5).1
  exact ⟨h4, by rw [L.heap r hlt h6]; exact h5, fun h => h6 (L.own r hlt h)⟩
structure FrOk (D : Fr) (N : Nat) (c : Cx) (a : Act) : Prop where
  size : a.tmps.size = N
  nb : N ≤ BIG
  marks : MarksOk D.c0.w.heap.size c a.defers
  since : Later D.c0 c
  stk : StkSame D.dp D.c0.σ c.σ
theorem FrOk.later {D : Fr} {N : Nat} {c c' : Cx} {a a' : Act} (h : FrOk D N c a) (L : Later c c') (hs : a'.tmps.size = a.tmps.size) (hd : a'.defers = a.defers) (hσ : StkSame D.dp c.σ c'.σ) : FrOk D N c' a' :=
  ⟨by rw [hs]; exact h.size, h.nb, by rw [hd]; exact h.marks.later L, h.since.trans L, h.stk.trans hσ⟩
/-- What holds between two instructions. -/
structure St (w1 : World) (B : Nat → Prop) (N : Nat) (D : Fr) (env : Env) (mem : Mem) (σ : Nat → Slot) (a : Act) (w : World) : Prop where
  en : EnvR (cx B (eM mem) σ w) (eE env) a
  sm : Sm w1 B (eM mem) σ w
  fr : FrOk D N (cx B (eM mem) σ w) a

theorem lk_cutEnv {b : Nat} : ∀ {env : Env} {t : Nat} {v : V}, lk t (cutEnv b env) = some v → lk t env = some v ∧ mentions b 5 v = false
  | [], t, v, h => by simp [cutEnv, lk] at h
  | (u, x) :: r, t, v, h => by
    simp only [cutEnv, cond_eq_ite] at h
    split at h
    · rw [lk_del] at h
      split at h
      · simp at h
      · rename_i hne
        obtain ⟨h1, h2⟩ := lk_cutEnv h
        exact ⟨by simp [lk, cond_eq_ite, hne, h1], h2⟩
    · rename_i hm
      simp only [lk, cond_eq_ite, Nat.beq_eq] at h ⊢
      split at h
      · rename_i e
        simp only [Option.some.injEq] at h
        subst h
        exact ⟨by simp [e], by simpa using hm⟩
      · rename_i e
        rw [if_neg e]
        exact lk_cutEnv h
theorem EnvR.putO {c c' : Cx} {E : Nat → Option V} {env : Env} {a : Act} {d : Option Nat} {v : V} {v' : Value} (hd : ∀ x, d = some x → x < a.tmps.size) (h : EnvR c E a) (hE : ∀ t u, d ≠ some t → lk t env = some u → E t = some u ∧ ∀ u', VR c u u' → VR c' u u') (hv : VR c' v v') :
    EnvR c' (eE (Ge.putO d v env)) (a.put d v') := by
  intro t u hu
  cases d with
  | none =>
    obtain ⟨h1, h2⟩ := hE t u (by simp) hu
    obtain ⟨u', h3, h4⟩ := h t u h1
    exact ⟨u', h3, h2 u' h4⟩
  | some d =>
    simp only [eE, Ge.putO, lk_put] at hu
    by_cases ht : t = d
    · subst ht
      simp only [if_true, Option.some.injEq] at hu
      subst hu
      refine ⟨v', ?_, hv⟩
      simp only [Act.put]
      exact Array.getElem?_setIfInBounds_self_of_lt (hd t rfl)
    · rw [if_neg ht] at hu
      obtain ⟨h1, h2⟩ := hE t u (by simpa using fun e => ht e.symm) hu
      obtain ⟨u', h3, h4⟩ := h t u h1
      refine ⟨u', ?_, h2 u' h4⟩
      simp only [Act.put]
      rw [Array.getElem?_setIfInBounds_ne (fun e => ht e.symm)]
      exact h3
theorem put_size {a : Act} {d : Option Nat} {v : Value} : (a.put d v).tmps.size = a.tmps.size := by cases d <;> simp [Act.put]
theorem put_defers {a : Act} {d : Option Nat} {v : Value} : (a.put d v).defers = a.defers := by cases d <;> rfl
theorem free_env {k : Nat} {env : Env} {mem : Mem} (h : free k env mem = true) : (∀ t v, lk t env = some v → mentions k 5 v = false) ∧ (∀ b blk, lk b mem = some blk → b ≠ k → menB k blk = false) := by
  simp only [free, Bool.and_eq_true, List.all_eq_true, Bool.or_eq_true, Bool.not_eq_true', Nat.beq_eq] at h
  refine ⟨fun t v hv => h.1 _ (lk_mem hv), fun b blk hb hne => ?_⟩
  rcases h.2 _ (lk_mem hb) with h2 | h2
  · exact absurd h2.symm hne
  · exact h2
section
theorem St.size {w1 : World} {B : Nat → Prop} {N : Nat} {D : Fr} {env : Env} {mem : Mem} {σ : Nat → Slot} {a : Act} {w : World} (st : St w1 B N D env mem σ a w) : a.tmps.size = N := st.fr.size
variable {R : Type} {r : R} {w1 : World} {B : Nat → Prop} {N : Nat} {D : Fr} {env : Env} {mem : Mem} {σ : Nat → Slot} {w w' : World} {a : Act}
/-- The state behind an instruction. -/
theorem apply_sound {dst : Option Nat} {v : V} {v' : Value} {e : Eff} {kk : Env → Mem → Option R} (st : St w1 B N D env mem σ a w) (hd : ∀ x, dst = some x → x < N) (h : applyE dst v e env mem kk = some r)
    (hp : Post w1 B (eM mem) σ w (dst.getD 0) e v v' w') : ∃ env' mem' σ', kk env' mem' = some r ∧ St w1 B N D env' mem' σ' (a.put dst v') w' := by
  -- what is cut
  obtain ⟨env1, mem1, hcut, hE1, hM1⟩ : ∃ env1 mem1, (match e.set with
      | none => match e.new with
        | none => kk (putO dst v env1) mem1
        | some blk => bif free (dst.getD 0) env1 mem1 && dst.isSome && !menB (dst.getD 0) blk then kk (putO dst v env1) (put (dst.getD 0) blk mem1) else none
      | some (b, blk1) => match e.new with
        | none => kk (putO dst v env1) (put b blk1 mem1)
        | some blk => bif free (dst.getD 0) env1 mem1 && dst.isSome && !menB (dst.getD 0) blk && !menB (dst.getD 0) blk1 && !Nat.beq b (dst.getD 0) then kk (putO dst v env1) (put (dst.getD 0) blk (put b blk1 mem1)) else none) = some r ∧
      (∀ t u, lk t env1 = some u → lk t env = some u) ∧ eM mem1 = cutM e.cut (eM mem) := by
    simp only [applyE, cutE] at h
    cases hc : e.cut with
    | none => rw [hc] at h; exact ⟨env, mem, h, fun _ _ h => h, rfl⟩
    | some b =>
      rw [hc] at h
      dsimp only at h
      cases hall : (mem.all fun p => !menB b p.2) with
      | false => rw [hall] at h; simp at h
      | true =>
        rw [hall, cond_true] at h
        refine ⟨cutEnv b env, del b mem, h, fun t u hu => (lk_cutEnv hu).1, ?_⟩
        funext x
        simp only [eM, lk_del, cutM, up]
  clear h
  -- the end
  have fin : ∀ (mem' : Mem), kk (putO dst v env1) mem' = some r → eM mem' = effM (dst.getD 0) e (eM mem) → (e.new.isSome = true → dst.isSome = true ∧ ∀ t u, lk t env1 = some u → mentions (dst.getD 0) 5 u = false) →
      (e.new.isSome = true → ∀ k b, effM (dst.getD 0) { e with new := none } (eM mem) k = some b → k ≠ dst.getD 0 → menB (dst.getD 0) b = false) → (∀ blk, e.new = some blk → menB (dst.getD 0) blk = false) →
      ∃ env' mem' σ', kk env' mem' = some r ∧ St w1 B N D env' mem' σ' (a.put dst v') w' := by
    intro mem' hk hM hnew h1 h2
    obtain ⟨σ', s, L, hσ, hv⟩ := hp h1 h2
    refine ⟨_, mem', σ', hk, ⟨?_, ?_, ?_⟩⟩
    · rw [hM]
      refine EnvR.putO (fun x hx => by rw [st.size]; exact hd x hx) st.en (fun t u _ hu => ⟨hE1 t u hu, fun u' hr => hr.later L fun k => ?_⟩) hv
      rcases hσ k with h3 | ⟨h3, rfl⟩
      · exact .inr h3
      · exact .inl ⟨5, (hnew h3).2 t u hu⟩
    · rw [hM]; exact s
    · rw [hM]
      refine st.fr.later L put_size put_defers fun k hk _ => (hσ k).resolve_right fun h3 => ?_
      have hn0 : 0 < BIG := by decide
      have := st.fr.nb
      rw [h3.2] at hk
      cases hd0 : dst with
      | none => rw [hd0] at hk; simp only [Option.getD_none] at hk; omega
      | some x => rw [hd0] at hk; have := hd x hd0; simp only [Option.getD_some] at hk; omega
  cases hs : e.set with
  | none =>
    rw [hs] at hcut
    dsimp only at hcut
    cases hn : e.new with
    | none =>
      rw [hn] at hcut
      dsimp only at hcut
      refine fin mem1 hcut (by rw [hM1]; simp [effM, hs, hn]) (by simp [hn]) (by simp [hn]) (by simp [hn])
    | some blk =>
      rw [hn] at hcut
      dsimp only at hcut
      simp only [cond_eq_ite, Bool.and_eq_true, Bool.not_eq_true'] at hcut
      split at hcut
      · rename_i hc
        obtain ⟨hf1, hf2⟩ := free_env hc.1.1
        refine fin _ hcut ?_ (fun _ => ⟨hc.1.2, hf1⟩) (fun _ k b hk hne => ?_) (fun blk2 hb => by rw [hn] at hb; simp only [Option.some.injEq] at hb; rw [← hb]; exact hc.2)
        · funext x
          simp only [eM, lk_put, effM, hs, hn, up]
          split
          · rfl
          · exact congrFun hM1 x
        · refine hf2 k b ?_ hne
          have : eM mem1 k = some b := by rw [hM1]; simpa [effM, hs] using hk
          exact this
      · simp at hcut
  | some p =>
    obtain ⟨b0, blk1⟩ := p
    rw [hs] at hcut
    dsimp only at hcut
    cases hn : e.new with
    | none =>
      rw [hn] at hcut
      dsimp only at hcut
      refine fin _ hcut ?_ (by simp [hn]) (by simp [hn]) (by simp [hn])
      funext x
      simp only [eM, lk_put, effM, hs, hn, up]
      split
      · rfl
      · exact congrFun hM1 x
    | some blk =>
      rw [hn] at hcut
      dsimp only at hcut
      simp only [cond_eq_ite, Bool.and_eq_true, Bool.not_eq_true'] at hcut
      split at hcut
      · rename_i hc
        obtain ⟨hf1, hf2⟩ := free_env hc.1.1.1.1
        refine fin _ hcut ?_ (fun _ => ⟨hc.1.1.1.2, hf1⟩) (fun _ k b hk hne => ?_) (fun blk2 hb => by rw [hn] at hb; simp only [Option.some.injEq] at hb; rw [← hb]; exact hc.1.1.2)
        · funext x
          simp only [eM, lk_put, effM, hs, hn, up]
          split
          · rfl
          · split
            · rfl
            · exact congrFun hM1 x
        · simp only [effM, hs, up] at hk
          split at hk
          · simp only [Option.some.injEq] at hk; rw [← hk]; exact hc.1.2
          · refine hf2 k b ?_ hne
            have : eM mem1 k = some b := by rw [hM1]; exact hk
            exact this
      · simp at hcut
end
end Go.Ge
