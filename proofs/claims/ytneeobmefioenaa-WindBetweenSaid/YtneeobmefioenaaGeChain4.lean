/- Two instructions change places. -/
import Derived.Test.YtneeobmefioenaaGeChain3
namespace Go.Ge
open Go Go.RowKit

def isAl : I → Bool
  | .al _ => true
  | _ => false
def isNew : I → Bool
  | .al _ => true
  | .bx _ => true
  | .bsl _ _ _ => true
  | _ => false
def cOk (d : Nat) : Opd → Bool
  | .c v => !mentions d 5 v
  | _ => true
def csOk (d : Nat) : I → Bool
  | .ld _ _ p => cOk d p
  | .ixs _ x i => cOk d x && cOk d i
  | .len _ x => cOk d x
  | .call f args => cOk d f && args.all (cOk d)
  | _ => true
def opdT : Opd → Opd → Bool
  | .t a, .t b => Nat.beq a b
  | _, _ => false
/-- x stands before j in the text; no order binds them. -/
def kindOk (dj : Nat) (dx : Nat) (x j : I) : Bool :=
  ((nmI x || roI x || callI x) && (nmI j || roI j || callI j) && !(callI x && callI j))
  || (nmI x && wrI j)
  || (match j with
      | .al zs => (roI x || callI x || isAl x) && csOk dj x && !menB dx (.cells zs)
      | .sta _ _ _ av => (match x with
        | .ld _ _ p => av.any (opdT p)
        | .ixs _ _ _ => true
        | _ => false)
      | .st _ _ _ => (match x with | .ixs _ _ _ => true | _ => false)
      | _ => false)
def pairOk0 (x j : II) : Bool :=
  (match x.dst with
    | some d => !(rdX j).contains d && (match j.dst with | some d' => !Nat.beq d d' | none => true)
    | none => true)
  && (match j.dst with | some d => !(rdX x).contains d | none => true)
  && kindOk (j.dst.getD 0) (x.dst.getD 0) x.i j.i && (!isAl j.i || j.dst.isSome) && (!isAl x.i || x.dst.isSome)
def OutIs (x : II) (E : Nat → Option V) (M : Nat → Option Blk) (v : V) (e : Eff) : Prop :=
  (wantF E x.g = some false ∧ v = .tup [] ∧ e = {}) ∨ (wantF E x.g = some true ∧ evD x.i (x.dst.getD 0) E M = some (v, e))
def OutE (x : II) (E : Nat → Option V) (M : Nat → Option Blk) (v : V) (e : Eff) : Prop :=
  (callI x.i = false ∧ OutIs x E M v e) ∨ (callI x.i = true ∧ e = {})
section
variable {P : Program} {x j : II} {E : Nat → Option V} {M : Nat → Option Blk} {K : V → Eff → Prop}
theorem out_det (h : callI x.i = false) : Out P x E M K ↔ ∃ v e, OutIs x E M v e ∧ K v e := by
  unfold Out OutIs
  cases hw : wantF E x.g with
  | none => simp
  | some b =>
    cases b with
    | false => exact ⟨fun hk => ⟨_, _, .inl ⟨rfl, rfl, rfl⟩, hk⟩, fun ⟨v, e, h1, h2⟩ => by rcases h1 with ⟨-, rfl, rfl⟩ | ⟨h1, -⟩; exact h2; simp at h1⟩
    | true =>
      dsimp only
      rw [OutI_det h]
      exact ⟨fun ⟨v, e, h1, h2⟩ => ⟨v, e, .inr ⟨rfl, h1⟩, h2⟩, fun ⟨v, e, h1, h2⟩ => by rcases h1 with ⟨h1, -⟩ | ⟨-, h1⟩; simp at h1; exact ⟨v, e, h1, h2⟩⟩
theorem outIs_unique {v v' : V} {e e' : Eff} (h : OutIs x E M v e) (h' : OutIs x E M v' e') : v = v' ∧ e = e' := by
  rcases h with ⟨h1, rfl, rfl⟩ | ⟨h1, h2⟩ <;> rcases h' with ⟨h3, rfl, rfl⟩ | ⟨h3, h4⟩
  · exact ⟨rfl, rfl⟩
  · rw [h1] at h3; simp at h3
  · rw [h1] at h3; simp at h3
  · rw [h2] at h4; simp only [Option.some.injEq, Prod.mk.injEq] at h4; exact h4
theorem out_and (h : Out P x E M K) : Out P x E M fun v e => OutE x E M v e ∧ K v e := by
  cases hc : callI x.i with
  | false =>
    rw [out_det hc] at h ⊢
    obtain ⟨v, e, h1, h2⟩ := h
    exact ⟨v, e, h1, .inl ⟨hc, h1⟩, h2⟩
  | true =>
    unfold Out at h ⊢
    split at h
    · exact h
    · exact ⟨.inr ⟨hc, rfl⟩, h⟩
    · have hall : ∀ v e, K v e → e = {} → OutE x E M v e ∧ K v e := fun v e hk he => ⟨.inr ⟨hc, he⟩, hk⟩
      cases hi : x.i <;> rw [hi] at h hc <;> (try (simp [callI] at hc; done))
      obtain ⟨ff, caps, vs, us, h1, h2, h3, h4, v, h5, h6⟩ := h
      exact ⟨ff, caps, vs, us, h1, h2, h3, h4.mono fun v _ hh => ⟨hh.1, hall _ _ hh.2 rfl⟩, v, h5, hall _ _ h6 rfl⟩
theorem out_ex (h : Out P x E M K) : ∃ v e, K v e := by
  cases hc : callI x.i with
  | false =>
    rw [out_det hc] at h
    obtain ⟨v, e, -, h2⟩ := h
    exact ⟨v, e, h2⟩
  | true =>
    unfold Out at h
    split at h
    · exact h.elim
    · exact ⟨_, _, h⟩
    · cases hi : x.i <;> rw [hi] at h hc <;> (try (simp [callI] at hc; done))
      obtain ⟨ff, caps, vs, us, h1, h2, h3, h4, v, h5, h6⟩ := h
      exact ⟨_, _, h6⟩
theorem out_swap {K : V → Eff → V → Eff → Prop} (hcc : (callI x.i && callI j.i) = false) (h : Out P x E M fun vx ex => Out P j E M fun vj ej => K vx ex vj ej) : Out P j E M fun vj ej => Out P x E M fun vx ex => K vx ex vj ej := by
  cases hc : callI x.i with
  | false =>
    rw [out_det hc] at h
    obtain ⟨vx, ex, h1, h2⟩ := h
    exact Out_mono (fun vj ej hk => (out_det hc).2 ⟨vx, ex, h1, hk⟩) h2
  | true =>
    have hj : callI j.i = false := by simpa [hc] using hcc
    obtain ⟨vx0, ex0, h0⟩ := out_ex h
    obtain ⟨vj, ej, h1, -⟩ := (out_det hj).1 h0
    refine (out_det hj).2 ⟨vj, ej, h1, Out_mono (fun vx ex hk => ?_) h⟩
    obtain ⟨vj2, ej2, h3, h4⟩ := (out_det hj).1 hk
    obtain ⟨rfl, rfl⟩ := outIs_unique h1 h3
    exact h4
/-- Where it looks nothing has changed. -/
theorem out_congrE {E' : Nat → Option V} (h : ∀ t, t ∈ rdX x → E' t = E t) : Out P x E' M K = Out P x E M K := by
  have h1 : ∀ t, t ∈ rdG x.g → E' t = E t := fun t ht => h t (by simp [rdX, ht])
  have h2 : ∀ t, t ∈ rdI x.i → E' t = E t := fun t ht => h t (by simp [rdX, ht])
  unfold Out
  rw [wantF_congr h1]
  cases hc : callI x.i with
  | false => rw [OutI_det hc, OutI_det hc]; unfold evD; rw [evI_congr h2]
  | true =>
    cases hi : x.i <;> rw [hi] at hc h2 <;> (try (simp [callI] at hc; done))
    simp only [OutI, OutC]
    rw [ev_congr fun t ht => h2 t (by simp [rdI, ht]), evs_congr fun t ht => h2 t (by simp [rdI, ht])]
theorem out_congrM {M' : Nat → Option Blk} (hc : callI x.i = false) (h : evD x.i (x.dst.getD 0) E M' = evD x.i (x.dst.getD 0) E M) : Out P x E M' K = Out P x E M K := by
  unfold Out
  rw [OutI_det hc, OutI_det hc, h]
end
/-! ### A new block that nobody speaks of -/
theorem snap_congr {M M' : Nat → Option Blk} {d : Nat} (hM : ∀ k, k ≠ d → M' k = M k) (hm : ∀ k b, M k = some b → k ≠ d → menB d b = false) : ∀ (n : Nat) (v : V), (∃ m, mentions d m v = false) → snap true M' n v = snap true M n v := by
  intro n
  induction n with
  | zero => intro v _; rfl
  | succ n ih =>
    intro v hv
    have lists : ∀ {cs : List V}, (∃ m, cs.any (mentions d m) = false) → mapO (snap true M' n) cs = mapO (snap true M n) cs := by
      rintro cs ⟨m, hm2⟩
      rw [List.any_eq_false] at hm2
      exact mapO_congr fun y hy => ih y ⟨m, by simpa using hm2 y hy⟩
    have sub : ∀ {cs : List V} {u : V}, (∀ m, mentions d (m + 1) u = cs.any (mentions d m)) → (∃ m, mentions d m u = false) → ∃ m, cs.any (mentions d m) = false := by
      rintro cs u h ⟨m, hm⟩
      cases m with
      | zero => simp [mentions] at hm
      | succ m => exact ⟨m, by rw [← h]; exact hm⟩
    have key : ∀ {u : V} {k : Nat}, (∀ m, mentions d (m + 1) u = Nat.beq d k) → (∃ m, mentions d m u = false) → k ≠ d := by
      rintro u k h ⟨m, hm⟩ rfl
      cases m with
      | zero => simp [mentions] at hm
      | succ m => rw [h] at hm; simp at hm
    cases v <;> simp only [snap]
    case pc cs off b => rw [lists (sub (fun _ => rfl) hv)]
    case agg cs => rw [lists (sub (fun _ => rfl) hv)]
    case tup cs => rw [lists (sub (fun _ => rfl) hv)]
    case fn f cs => rw [lists (sub (fun _ => rfl) hv)]
    case pb k off =>
      have hk := key (fun _ => rfl) hv
      rw [hM k hk]
      split
      · rename_i cs hcs
        have := hm k _ hcs hk
        simp only [menB] at this
        rw [lists ⟨5, this⟩]
      · rfl
    case bs k =>
      have hk := key (fun _ => rfl) hv
      rw [hM k hk]
theorem ev_free {E : Nat → Option V} {d : Nat} {o : Opd} (hE : ∀ t v, E t = some v → mentions d 5 v = false) (hc : cOk d o = true) {v : V} (h : ev E o = some v) : mentions d 5 v = false := by
  cases o with
  | t n => exact hE n v h
  | c u => simp only [ev, Option.some.injEq] at h; subst h; simpa [cOk] using hc
  | f n => simp only [ev, Option.some.injEq] at h; subst h; rfl
theorem ro_fresh {i : I} {d d' : Nat} {E : Nat → Option V} {M M' : Nat → Option Blk} (hr : roI i = true) (hM : ∀ k, k ≠ d → M' k = M k) (hE : ∀ t v, E t = some v → mentions d 5 v = false) (hc : csOk d i = true) : evD i d' E M' = evD i d' E M := by
  have key : ∀ {o : Opd} {u : V} {k : Nat}, cOk d o = true → ev E o = some u → mentions d 5 u = Nat.beq d k → k ≠ d := by
    rintro o u k h1 h2 h3 rfl
    rw [ev_free hE h1 h2] at h3
    simp at h3
  unfold evD
  cases i <;> (try (simp [roI] at hr; done))
  case ld n ag p =>
    simp only [csOk] at hc
    simp only [evI]
    cases hp : ev E p with
    | none => rfl
    | some u =>
      cases u <;> simp only [ldK]
      · rw [hM _ (key hc hp rfl)]
      · rw [hM _ (key hc hp rfl)]
  case ixs s x i =>
    simp only [csOk, Bool.and_eq_true] at hc
    simp only [evI]
    cases hx : ev E x with
    | none => rfl
    | some u =>
      cases u <;> (try rfl)
      simp only [hM _ (key hc.1 hx rfl)]
  case len s x =>
    simp only [csOk] at hc
    simp only [evI]
    cases s <;> (try rfl)
    cases hx : ev E x with
    | none => rfl
    | some u =>
      cases u <;> (try rfl)
      simp only [rowK, hM _ (key hc hx rfl)]
theorem call_fresh {P : Program} {f : Opd} {args : List Opd} {d d' : Nat} {E : Nat → Option V} {M M' : Nat → Option Blk} {K : V → Eff → Prop} (hM : ∀ k, k ≠ d → M' k = M k) (hm : ∀ k b, M k = some b → k ≠ d → menB d b = false) (hE : ∀ t v, E t = some v → mentions d 5 v = false)
    (hc : csOk d (.call f args) = true) : OutI P (.call f args) d' E M' K = OutI P (.call f args) d' E M K := by
  simp only [csOk, Bool.and_eq_true, List.all_eq_true] at hc
  simp only [OutI, OutC]
  apply propext
  have main : ∀ ff caps vs us, ev E f = some (.fn ff caps) → evs E args = some vs → (mapO (snap true M' 5) (vs ++ caps) = some us ↔ mapO (snap true M 5) (vs ++ caps) = some us) := by
    intro ff caps vs us h1 h2
    rw [mapO_congr (f := snap true M' 5) (g := snap true M 5)]
    intro y hy
    refine snap_congr hM hm 5 y ?_
    rw [List.mem_append] at hy
    rcases hy with hy | hy
    · obtain ⟨hl, hall⟩ := mapO_spec h2
      obtain ⟨i, hi, hiy⟩ := List.mem_iff_getElem.1 hy
      have hlt : i < args.length := by rw [hl]; exact hi
      obtain ⟨u, hu1, hu2⟩ := hall i args[i] (List.getElem?_eq_getElem hlt)
      rw [List.getElem?_eq_getElem hi, hiy] at hu2
      simp only [Option.some.injEq] at hu2
      subst hu2
      exact ⟨5, ev_free hE (hc.2 _ (List.getElem_mem hlt)) hu1⟩
    · have h9 : caps.any (mentions d 4) = false := ev_free hE hc.1 h1
      rw [List.any_eq_false] at h9
      have := h9 y hy
      exact ⟨4, by cases h8 : mentions d 4 y with | false => rfl | true => exact absurd h8 this⟩
  constructor
  · rintro ⟨ff, caps, vs, us, h1, h2, h3, h4⟩
    exact ⟨ff, caps, vs, us, h1, h2, (main ff caps vs us h1 h2).1 h3, h4⟩
  · rintro ⟨ff, caps, vs, us, h1, h2, h3, h4⟩
    exact ⟨ff, caps, vs, us, h1, h2, (main ff caps vs us h1 h2).2 h3, h4⟩
/-! ### Stores -/
theorem st_shape {R : Type} {r : R} {M : Nat → Option Blk} {p : V} {n : Nat} {cs : List V} {kk : Nat → Blk → Option R} (h : stK M p n cs kk = some r) :
    ∃ b blk, kk b blk = some r ∧ keyV p = some b ∧ ((∃ c c', M b = some (.cells c) ∧ blk = .cells c') ∨ (∃ t l l', M b = some (.row t l) ∧ blk = .row t l' ∧ l'.length = l.length)) := by
  unfold stK at h
  simp only [cond_eq_ite] at h
  cases p <;> simp only [] at h <;> (repeat' split at h) <;> (try (simp at h; done))
  · rename_i hM _ _ _
    exact ⟨_, _, h, rfl, .inl ⟨_, _, hM, rfl⟩⟩
  · rename_i hM _ _ _ _ _ _ _ _ _ _
    exact ⟨_, _, h, rfl, .inr ⟨_, _, _, hM, rfl, by simp⟩⟩
theorem st_eff {j : I} {d : Nat} {E : Nat → Option V} {M : Nat → Option Blk} {v : V} {e : Eff} (hj : (match j with | .st _ _ _ => true | .sta _ _ _ _ => true | _ => false) = true) (h : evD j d E M = some (v, e)) :
    ∃ p b blk, (∃ n x, j = .st n p x ∨ ∃ av qs, j = .sta n p x av ∧ evs E av = some qs ∧ ∃ pv, ev E p = some pv ∧ qs.all (apartK pv) = true) ∧ v = .tup [] ∧ e = { set := some (b, blk) } ∧ (∃ pv, ev E p = some pv ∧ keyV pv = some b) ∧
      ((∃ c c', M b = some (.cells c) ∧ blk = .cells c') ∨ (∃ t l l', M b = some (.row t l) ∧ blk = .row t l' ∧ l'.length = l.length)) := by
  unfold evD at h
  cases j <;> (try (simp at hj; done))
  case st n p x =>
    simp only [evI] at h
    split at h
    · rename_i pv hp
      split at h
      · obtain ⟨b, blk, h1, h2, h3⟩ := st_shape h
        simp only [Option.some.injEq, Prod.mk.injEq] at h1
        exact ⟨p, b, blk, ⟨n, x, .inl rfl⟩, h1.1.symm, h1.2.symm, ⟨pv, hp, h2⟩, h3⟩
      · simp at h
    · simp at h
  case sta n p x av =>
    simp only [evI] at h
    split at h
    · rename_i pv hp
      split at h
      · split at h
        · rename_i qs hqs
          simp only [cond_eq_ite] at h
          split at h
          · rename_i hall
            obtain ⟨b, blk, h1, h2, h3⟩ := st_shape h
            simp only [Option.some.injEq, Prod.mk.injEq] at h1
            exact ⟨p, b, blk, ⟨n, x, .inr ⟨av, qs, rfl, hqs, pv, hp, hall⟩⟩, h1.1.symm, h1.2.symm, ⟨pv, hp, h2⟩, h3⟩
          · simp at h
        · simp at h
      · simp at h
    · simp at h
theorem ixs_store {s d : Nat} {x i : Opd} {E : Nat → Option V} {M : Nat → Option Blk} {b : Nat} {blk : Blk} (h : (∃ c c', M b = some (.cells c) ∧ blk = .cells c') ∨ (∃ t l l', M b = some (.row t l) ∧ blk = .row t l' ∧ l'.length = l.length)) :
    evD (.ixs s x i) d E (up M b (some blk)) = evD (.ixs s x i) d E M := by
  unfold evD
  simp only [evI]
  cases hx : ev E x with
  | none => rfl
  | some u =>
    cases u <;> (try rfl)
    rename_i k
    by_cases hk : k = b
    · subst hk
      simp only [up_same]
      rcases h with ⟨c, c', h1, rfl⟩ | ⟨t, l, l', h1, rfl, h2⟩
      · simp only [h1]
      · simp only [h1, h2]
    · simp only [up_ne M (some blk) hk]
theorem ld_store {n d : Nat} {ag : Bool} {p : Opd} {E : Nat → Option V} {M : Nat → Option Blk} {b : Nat} {blk : Blk} {q : V} (hq : ev E p = some q) (h : keyV q ≠ some b) :
    evD (.ld n ag p) d E (up M b (some blk)) = evD (.ld n ag p) d E M := by
  unfold evD
  simp only [evI, hq]
  cases q <;> simp only [ldK]
  · rw [up_ne]; intro e; subst e; exact h rfl
  · rw [up_ne]; intro e; subst e; exact h rfl
end Go.Ge
