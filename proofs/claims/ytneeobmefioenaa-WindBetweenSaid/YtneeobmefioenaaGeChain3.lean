/- A region as a chain of outcomes. -/
import Derived.Test.YtneeobmefioenaaGeChain2
namespace Go.Ge
open Go Go.RowKit

theorem CallOk.mono {P : Program} {f : Nat} {vs : List V} {G G' : V → Prop} (h : CallOk P f vs G) (hg : ∀ v, pureV 5 v = true → G v → G' v) : CallOk P f vs G' :=
  ⟨h.enters, fun w B σ args' n hB hv => (h.calls w B σ args' n hB hv).mono fun _ _ ⟨v, v', h1, h2, h3, h4, h5⟩ => ⟨v, v', h1, h2, h3, h4, hg v h4 h5⟩⟩
/-- What a caller's hook must hold to. -/
structure CallLaw {R : Type} (P : Program) (H : Hk R) (r : R) : Prop where
  call : ∀ f vs kk, H.C f vs kk = some r → CallOk P f vs (fun v => kk v = some r) ∧ ∃ v, pureV 5 v = true ∧ kk v = some r
  join : ∀ l, H.J l = some r → ∀ x, x ∈ l → x = some r
  grow : ∀ f t n, H.G f t n = true → GrowOk P f t n
  sort : ∀ f t l c kk, H.S f t l c kk = some r → l ≠ [] → SortOk P f t l c fun l' => kk l' = some r
  sort0 : ∀ f, H.Z f = true → Sort0Ok P f
  sortEx : ∀ f t l c kk, H.S f t l c kk = some r → ∃ l', kk l' = some r

def wantF (E : Nat → Option V) (g : Option (Nat × Bool)) : Option Bool :=
  match g with
  | none => some true
  | some (t, w) => match E t with
    | some (.b x) => some (bif w then x else !x)
    | some (.tup _) => some false
    | _ => none
theorem want_eq {R : Type} {E : Nat → Option V} {g : Option (Nat × Bool)} {kk : Bool → Option R} : want E g kk = (wantF E g).bind kk := by
  cases g with
  | none => rfl
  | some p =>
    obtain ⟨t, w⟩ := p
    simp only [want, wantF]
    cases hE : E t with
    | none => rfl
    | some v => cases v <;> first | rfl | (rename_i x; cases w <;> cases x <;> rfl)
def rdG (g : Option (Nat × Bool)) : List Nat :=
  match g with
  | some (t, _) => [t]
  | none => []
def rdX (x : II) : List Nat := rdG x.g ++ rdI x.i
theorem wantF_congr {E E' : Nat → Option V} {g : Option (Nat × Bool)} (h : ∀ t, t ∈ rdG g → E' t = E t) : wantF E' g = wantF E g := by
  cases g with
  | none => rfl
  | some p => obtain ⟨t, w⟩ := p; simp only [wantF, h t (by simp [rdG])]
def OutC (P : Program) (f : Opd) (args : List Opd) (E : Nat → Option V) (M : Nat → Option Blk) (K : V → Prop) : Prop :=
  ∃ ff caps vs us, ev E f = some (.fn ff caps) ∧ evs E args = some vs ∧ mapO (snap true M 5) (vs ++ caps) = some us ∧ CallOk P ff us (fun v => pureV 5 v = true ∧ K v) ∧ ∃ v, pureV 5 v = true ∧ K v
def OutI (P : Program) (i : I) (d : Nat) (E : Nat → Option V) (M : Nat → Option Blk) (K : V → Eff → Prop) : Prop :=
  match i with
  | .call f args => OutC P f args E M fun v => K v {}
  | i => ∃ v e, evD i d E M = some (v, e) ∧ K v e
def Out (P : Program) (x : II) (E : Nat → Option V) (M : Nat → Option Blk) (K : V → Eff → Prop) : Prop :=
  match wantF E x.g with
  | none => False
  | some false => K (.tup []) {}
  | some true => OutI P x.i (x.dst.getD 0) E M K
theorem OutI_det {P : Program} {i : I} {d : Nat} {E : Nat → Option V} {M : Nat → Option Blk} {K : V → Eff → Prop} (h : callI i = false) : OutI P i d E M K = ∃ v e, evD i d E M = some (v, e) ∧ K v e := by
  cases i <;> first | (simp [callI] at h; done) | rfl
theorem OutI_mono {P : Program} {i : I} {d : Nat} {E : Nat → Option V} {M : Nat → Option Blk} {K K' : V → Eff → Prop} (hk : ∀ v e, K v e → K' v e) (h : OutI P i d E M K) : OutI P i d E M K' := by
  cases hc : callI i with
  | false =>
    rw [OutI_det hc] at h ⊢
    obtain ⟨v, e, h1, h2⟩ := h
    exact ⟨v, e, h1, hk v e h2⟩
  | true =>
    cases i <;> (try (simp [callI] at hc; done))
    obtain ⟨ff, caps, vs, us, h1, h2, h3, h4, v, h5, h6⟩ := h
    exact ⟨ff, caps, vs, us, h1, h2, h3, h4.mono fun v _ h => ⟨h.1, hk _ _ h.2⟩, v, h5, hk _ _ h6⟩
theorem Out_mono {P : Program} {x : II} {E : Nat → Option V} {M : Nat → Option Blk} {K K' : V → Eff → Prop} (hk : ∀ v e, K v e → K' v e) (h : Out P x E M K) : Out P x E M K' := by
  unfold Out at h ⊢
  split at h
  · exact h
  · exact hk _ _ h
  · exact OutI_mono hk h
def cutF (c : Option Nat) (E : Nat → Option V) : Nat → Option V :=
  match c with
  | none => E
  | some b => fun t => match E t with
    | some v => bif mentions b 5 v then none else some v
    | none => none
def putF (d : Option Nat) (v : V) (E : Nat → Option V) : Nat → Option V :=
  match d with
  | some d => fun t => if t = d then some v else E t
  | none => E
theorem eE_put {d : Option Nat} {v : V} {env : Env} : eE (putO d v env) = putF d v (eE env) := by
  cases d with
  | none => rfl
  | some d => funext t; simp only [eE, putO, lk_put, putF]
theorem eE_cut {b : Nat} : ∀ {env : Env}, eE (cutEnv b env) = cutF (some b) (eE env)
  | [] => by funext t; simp [eE, cutEnv, cutF, lk]
  | (u, x) :: r => by
    have ih : ∀ t, lk t (cutEnv b r) = cutF (some b) (eE r) t := fun t => congrFun (eE_cut (env := r)) t
    funext t
    simp only [eE, cutEnv, cutF, cond_eq_ite, lk, Nat.beq_eq]
    by_cases hm : mentions b 5 x = true
    · rw [if_pos hm, lk_del]
      by_cases ht : t = u
      · simp [ht, hm]
      · rw [if_neg ht, if_neg ht, ih t]; simp only [cutF, eE, cond_eq_ite]
    · rw [if_neg hm]
      simp only [lk, cond_eq_ite, Nat.beq_eq]
      by_cases ht : t = u
      · simp [ht, hm]
      · rw [if_neg ht, if_neg ht, ih t]; simp only [cutF, eE, cond_eq_ite]
/-- A new block's name is free. -/
def FreeF (dst : Option Nat) (E : Nat → Option V) (M : Nat → Option Blk) (e : Eff) : Prop :=
  (e.new.isSome = true → dst.isSome = true ∧ (∀ t v, E t = some v → mentions (dst.getD 0) 5 v = false) ∧ (∀ k b, M k = some b → k ≠ dst.getD 0 → menB (dst.getD 0) b = false)) ∧ ∀ blk, e.new = some blk → menB (dst.getD 0) blk = false
def Chain (P : Program) : List II → (Nat → Option V) → (Nat → Option Blk) → ((Nat → Option V) → (Nat → Option Blk) → Prop) → Prop
  | [], E, M, G => G E M
  | x :: r, E, M, G => Out P x E M fun v e => FreeF x.dst (cutF e.cut E) (cutM e.cut M) e ∧ (e.set = none ∨ e.new = none) ∧ Chain P r (putF x.dst v (cutF e.cut E)) (effM (x.dst.getD 0) e M) G
theorem apply_chain {R : Type} {r : R} {dst : Option Nat} {v : V} {e : Eff} {env : Env} {mem : Mem} {kk : Env → Mem → Option R} (hse : e.set = none ∨ e.new = none) (h : applyE dst v e env mem kk = some r) :
    FreeF dst (cutF e.cut (eE env)) (cutM e.cut (eM mem)) e ∧ ∃ env' mem', eE env' = putF dst v (cutF e.cut (eE env)) ∧ eM mem' = effM (dst.getD 0) e (eM mem) ∧ kk env' mem' = some r := by
  obtain ⟨c, s, nw⟩ := e
  -- what is cut
  obtain ⟨env1, mem1, hcut, hE1, hM1⟩ : ∃ env1 mem1, applyE dst v ⟨none, s, nw⟩ env1 mem1 kk = some r ∧ eE env1 = cutF c (eE env) ∧ eM mem1 = cutM c (eM mem) := by
    cases c with
    | none => exact ⟨env, mem, h, rfl, rfl⟩
    | some b =>
      simp only [applyE, cutE] at h
      cases hall : (mem.all fun p => !menB b p.2) with
      | false => rw [hall] at h; simp at h
      | true =>
        rw [hall, cond_true] at h
        refine ⟨cutEnv b env, del b mem, h, eE_cut, ?_⟩
        funext x
        simp only [eM, lk_del, cutM, up]
  clear h
  simp only [applyE, cutE] at hcut
  dsimp only
  rw [← hE1, ← hM1]
  cases s with
  | none =>
    cases nw with
    | none =>
      exact ⟨⟨by simp, by simp⟩, _, _, eE_put, by simp [effM, hM1], hcut⟩
    | some blk =>
      simp only [cond_eq_ite, Bool.and_eq_true, Bool.not_eq_true'] at hcut
      split at hcut
      · rename_i hc
        obtain ⟨hf1, hf2⟩ := free_env hc.1.1
        refine ⟨⟨fun _ => ⟨hc.1.2, hf1, hf2⟩, fun blk2 hb => by simp only [Option.some.injEq] at hb; rw [← hb]; exact hc.2⟩, _, _, eE_put, ?_, hcut⟩
        funext x
        simp only [eM, lk_put, effM, up]
        split
        · rfl
        · exact congrFun hM1 x
      · simp at hcut
  | some p =>
    obtain ⟨b0, blk1⟩ := p
    cases nw with
    | none =>
      refine ⟨⟨by simp, by simp⟩, _, _, eE_put, ?_, hcut⟩
      funext x
      simp only [eM, lk_put, effM, up]
      split
      · rfl
      · exact congrFun hM1 x
    | some blk => simp at hse
theorem plain_eff {i : I} {d : Nat} {E : Nat → Option V} {M : Nat → Option Blk} {v : V} {e : Eff} (h : plainI i = true) (he : evD i d E M = some (v, e)) : e.set = none ∨ e.new = none := by
  unfold evD at he
  cases i <;> (try (simp [plainI, nmI, roI, wrI] at h; done)) <;> simp only [evI, binK, ldK, rowK, stK, cond_eq_ite] at he <;> (repeat' split at he) <;>
    first
      | (simp at he; done)
      | (simp only [Option.some.injEq, Prod.mk.injEq] at he; rw [← he.2]; first | exact .inl rfl | exact .inr rfl)
def drawI (i : I) : Bool := plainI i || callI i
theorem mcO_draw {i : I} (h : drawI i = true) : mcO i = none := by cases i <;> first | rfl | (simp [drawI, plainI, nmI, roI, wrI, callI] at h)
theorem chain_of_evIs {R : Type} {H : Hk R} {r : R} {P : Program} (HC : CallLaw P H r) : ∀ {is : List II} {env : Env} {mem : Mem} {Y : Yt R} {dp : Nat} {kk : Env → Mem → Option R}, (∀ x, x ∈ is → x.fr = [] ∧ drawI x.i = true) → evIs H Y dp is env mem kk = some r →
    Chain P is (eE env) (eM mem) fun E M => ∃ env' mem', eE env' = E ∧ eM mem' = M ∧ kk env' mem' = some r
  | [], env, mem, _, _, kk, _, h => ⟨env, mem, rfl, rfl, h⟩
  | x :: rx, env, mem, Y, dp, kk, hx, h => by
    obtain ⟨hfr, hdr⟩ := hx x (by simp)
    have hrest : ∀ y, y ∈ rx → y.fr = [] ∧ drawI y.i = true := fun y hy => hx y (by simp [hy])
    simp only [evIs, hfr, frzs, mcO_draw hdr] at h
    obtain ⟨wb, h, hcm, hall⟩ := want_cmt h
    have hwf : wantF (eE env) x.g = some wb := by
      have h9 := hall (fun b => if b = wb then some r else none)
      rw [want_eq] at h9
      have h10 : wantF (fun t => lk t env) x.g = wantF (eE env) x.g := rfl
      rw [h10] at h9
      cases hw : wantF (eE env) x.g with
      | none => rw [hw] at h9; simp at h9
      | some b =>
        rw [hw] at h9
        simp only [Option.bind_some, if_true] at h9
        split at h9
        · rename_i e; rw [e]
        · simp at h9
    unfold Chain Out
    rw [hwf]
    have go : ∀ v e, (e.set = none ∨ e.new = none) → applyE x.dst v e (cmt x.g wb env) mem (fun env mem => evIs H Y dp rx env mem kk) = some r →
        FreeF x.dst (cutF e.cut (eE env)) (cutM e.cut (eM mem)) e ∧ (e.set = none ∨ e.new = none) ∧ Chain P rx (putF x.dst v (cutF e.cut (eE env))) (effM (x.dst.getD 0) e (eM mem)) fun E M => ∃ env' mem', eE env' = E ∧ eM mem' = M ∧ kk env' mem' = some r := by
      intro v e hse ha
      obtain ⟨hf, env', mem', h1, h2, h3⟩ := apply_chain hse ha
      rw [hcm] at hf h1
      refine ⟨hf, hse, ?_⟩
      rw [← h1, ← h2]
      exact chain_of_evIs HC hrest h3
    cases wb with
    | false =>
      dsimp only at h ⊢
      refine ⟨⟨by simp, by simp⟩, .inl rfl, ?_⟩
      have := chain_of_evIs HC hrest h
      rw [eE_put, hcm] at this
      exact this
    | true =>
      dsimp only at h ⊢
      have hlk : (fun t => lk t (cmt x.g true env)) = eE env := hcm
      cases hc : callI x.i with
      | false =>
        have hp : plainI x.i = true := by simpa [drawI, hc] using hdr
        rw [evI_bind hp, hlk] at h
        rw [OutI_det hc]
        cases hd : evD x.i (x.dst.getD 0) (eE env) fun b => lk b mem with
        | none => rw [hd] at h; simp at h
        | some p =>
          obtain ⟨v, e⟩ := p
          rw [hd] at h
          exact ⟨v, e, hd, go v e (plain_eff hp hd) h⟩
      | true =>
        obtain ⟨dst, i, g, fr⟩ := x
        cases i <;> (try (simp [callI] at hc; done))
        rename_i f args
        simp only [evI] at h
        simp only at hlk
        rw [hlk] at h
        split at h
        · rename_i ff caps hf
          split at h
          · rename_i vs hvs
            split at h
            · rename_i us hus
              obtain ⟨hco, v, hv1, hv2⟩ := HC.call _ _ _ h
              exact ⟨ff, caps, vs, us, hf, hvs, hus, hco.mono fun v hp hv => ⟨hp, go v {} (.inl rfl) hv⟩, v, hv1, go v {} (.inl rfl) hv2⟩
            · simp at h
          · simp at h
        · simp at h
end Go.Ge
