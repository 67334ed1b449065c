/- From an outcome to the model's step; regions that draw their order. -/
import Derived.Test.YtneeobmefioenaaGeChain5
import Derived.OrdersIn
namespace Go.Ge
open Go Go.RowKit

/-- The state, with functions for lists. -/
structure StF (w1 : World) (B : Nat → Prop) (N : Nat) (D : Fr) (E : Nat → Option V) (M : Nat → Option Blk) (σ : Nat → Slot) (a : Act) (w : World) : Prop where
  en : EnvR (cx B M σ w) E a
  sm : Sm w1 B M σ w
  fr : FrOk D N (cx B M σ w) a
theorem EnvR.putF {c c' : Cx} {E E1 : Nat → Option V} {a : Act} {d : Option Nat} {v : V} {v' : Value} (hd : ∀ x, d = some x → x < a.tmps.size) (h : EnvR c E a) (hE : ∀ t u, E1 t = some u → E t = some u ∧ ∀ u', VR c u u' → VR c' u u') (hv : VR c' v v') :
    EnvR c' (Ge.putF d v E1) (a.put d v') := by
  intro t u hu
  cases d with
  | none =>
    obtain ⟨h1, h2⟩ := hE t u hu
    obtain ⟨u', h3, h4⟩ := h t u h1
    exact ⟨u', h3, h2 u' h4⟩
  | some d =>
    simp only [Ge.putF] at hu
    by_cases ht : t = d
    · subst ht
      simp only [if_true, Option.some.injEq] at hu
      subst hu
      refine ⟨v', ?_, hv⟩
      simp only [Act.put]
      exact Array.getElem?_setIfInBounds_self_of_lt (hd t rfl)
    · rw [if_neg ht] at hu
      obtain ⟨h1, h2⟩ := hE t u hu
      obtain ⟨u', h3, h4⟩ := h t u h1
      refine ⟨u', ?_, h2 u' h4⟩
      simp only [Act.put]
      rw [Array.getElem?_setIfInBounds_ne (fun e => ht e.symm)]
      exact h3
theorem cutF_some {c : Option Nat} {E : Nat → Option V} {t : Nat} {u : V} (h : cutF c E t = some u) : E t = some u := by
  cases c with
  | none => exact h
  | some b =>
    simp only [cutF, cond_eq_ite] at h
    split at h
    · rename_i v hv
      split at h
      · simp at h
      · rw [hv]; exact h
    · simp at h
section
theorem StF.size {w1 : World} {B : Nat → Prop} {N : Nat} {D : Fr} {E : Nat → Option V} {M : Nat → Option Blk} {σ : Nat → Slot} {a : Act} {w : World} (st : StF w1 B N D E M σ a w) : a.tmps.size = N := st.fr.size
variable {w1 : World} {B : Nat → Prop} {N : Nat} {D : Fr} {E : Nat → Option V} {M : Nat → Option Blk} {σ : Nat → Slot} {w w' : World} {a : Act}
theorem applyF_sound {dst : Option Nat} {v : V} {v' : Value} {e : Eff} (st : StF w1 B N D E M σ a w) (hd : ∀ x, dst = some x → x < N) (hf : FreeF dst (cutF e.cut E) (cutM e.cut M) e) (hse : e.set = none ∨ e.new = none)
    (hp : Post w1 B M σ w (dst.getD 0) e v v' w') : ∃ σ', StF w1 B N D (putF dst v (cutF e.cut E)) (effM (dst.getD 0) e M) σ' (a.put dst v') w' := by
  obtain ⟨σ', s, L, hσ, hv⟩ := hp (fun hn k b hk hne => by
    obtain ⟨q1, q2, q3⟩ := hf.1 hn
    have hs : e.set = none := hse.resolve_right fun h => by rw [h] at hn; simp at hn
    refine q3 k b ?_ hne
    simpa [effM, hs] using hk) hf.2
  refine ⟨σ', EnvR.putF (fun x hx => by rw [st.size]; exact hd x hx) st.en (fun t u hu => ⟨cutF_some hu, fun u' hr => hr.later L fun k => ?_⟩) hv, s, ?_⟩
  · rcases hσ k with h3 | ⟨h3, rfl⟩
    · exact .inr h3
    · exact .inl ⟨5, (hf.1 h3).2.1 t u hu⟩
  · refine st.fr.later L put_size put_defers fun k hk _ => (hσ k).resolve_right fun h3 => ?_
    have hn0 : 0 < BIG := by decide
    have := st.fr.nb
    rw [h3.2] at hk
    cases hd0 : dst with
    | none => rw [hd0] at hk; simp only [Option.getD_none] at hk; omega
    | some x => rw [hd0] at hk; have := hd x hd0; simp only [Option.getD_some] at hk; omega
open Classical in
/-- The hook that says what is so. -/
noncomputable def HP (P : Program) : Hk Unit := { C := fun f vs kk => if CallOk P f vs (fun v => kk v = some ()) then some () else none, S := fun _ _ _ _ _ => none, J := fun _ => none, N := 0 }
theorem hp_calls {P : Program} {f : Nat} {vs : List V} {kk : V → Option Unit} (h : (HP P).C f vs kk = some ()) : CallOk P f vs fun v => kk v = some () := by
  simp only [HP] at h
  split at h
  · assumption
  · simp at h
open Classical in
theorem outI_ev {P : Program} {i : I} {d : Nat} {K : V → Eff → Prop} (hdr : drawI i = true) (h : OutI P i d E M K) : evI (HP P) i d E M (fun v e => if K v e then some () else none) = some () := by
  cases hc : callI i with
  | false =>
    have hp : plainI i = true := by simpa [drawI, hc] using hdr
    rw [OutI_det hc] at h
    obtain ⟨v, e, h1, h2⟩ := h
    rw [evI_bind hp, h1]
    simp [h2]
  | true =>
    cases i <;> (try (simp [callI] at hc; done))
    obtain ⟨ff, caps, vs, us, h1, h2, h3, h4, -⟩ := h
    simp only [evI, h1, h2, h3, HP]
    rw [if_pos]
    exact h4.mono fun v _ hk => by rw [if_pos hk.2]
variable {P : Program} {F : Fence} {n : Nat}
theorem wantF_sound {ops : Array Oper} {o : Oper} {g : Option (Nat × Bool)} {b : Bool} {c : Cx} (hg : gOk ops o.guard g = true) (en : EnvR c E a) (h : wantF E g = some b) : Region.wanted o (yielded ops a.tmps) = b := by
  cases g with
  | none =>
    simp only [wantF, Option.some.injEq] at h
    subst h
    cases hgo : o.guard with
    | none => simp [Region.wanted, hgo]
    | some p => rw [hgo] at hg; simp [gOk] at hg
  | some p =>
    obtain ⟨t, wn⟩ := p
    cases hgo : o.guard with
    | none => rw [hgo] at hg; simp [gOk] at hg
    | some q =>
      obtain ⟨j, b2⟩ := q
      rw [hgo] at hg
      simp only [gOk, Bool.and_eq_true, beq_iff_eq] at hg
      obtain ⟨hg, rfl⟩ := hg
      split at hg
      · rename_i oj hoj
        split at hg
        · rename_i dd hdd
          simp only [Nat.beq_eq] at hg
          subst hg
          have hy : ∀ v', a.tmps[dd]? = some v' → yielded ops a.tmps j = (match v' with | .bool b => some b | _ => none) := by
            intro v' hv
            simp only [yielded, hoj, hdd, Option.bind_some, hv]
            cases v' <;> rfl
          simp only [wantF] at h
          cases hE : E dd with
          | none => rw [hE] at h; simp at h
          | some u =>
            rw [hE] at h
            obtain ⟨v', h1, h2⟩ := en dd _ hE
            have e := hy _ h1
            cases u <;> simp only [] at h <;> (try (simp at h; done))
            · rename_i x
              have := h2.b_inv
              subst this
              simp only at e
              simp only [Option.some.injEq] at h
              rw [← h]
              simp only [Region.wanted, hgo, e]
              cases b2 <;> cases x <;> rfl
            · obtain ⟨cs', rfl, -⟩ := h2.tup_inv
              simp only at e
              simp only [Option.some.injEq] at h
              rw [← h]
              simp [Region.wanted, hgo, e]
        · simp at hg
      · simp at hg
/-- One instruction of a chain. -/
theorem out_sound (hF : Open F) (st : StF w1 B N D E M σ a w) {ops : Array Oper} {o : Oper} {x : II} (hok : iiOk P N ops o x = true) (hdr : drawI x.i = true) {C : (Nat → Option V) → (Nat → Option Blk) → Prop}
    (h : Out P x E M fun v e => FreeF x.dst (cutF e.cut E) (cutM e.cut M) e ∧ (e.set = none ∨ e.new = none) ∧ C (putF x.dst v (cutF e.cut E)) (effM (x.dst.getD 0) e M)) {K : Act → World → Prop} {Q : Exit → Act → World → Prop}
    (hK : ∀ E' M' σ' a' w', C E' M' → StF w1 B N D E' M' σ' a' w' → K a' w') :
    if Region.wanted o (yielded ops a.tmps) then o.wpIn F n P a w K Q else (∀ f, o.about P w a.eval = some f → F.fn f) ∧ K (a.put o.dst undef) w := by
  simp only [iiOk, Bool.and_eq_true] at hok
  obtain ⟨⟨h1, h2⟩, h3⟩ := hok
  simp only [iOk, mcO_draw hdr] at h3
  obtain ⟨hdst, hlt⟩ := dstOk_eq h1
  unfold Out at h
  cases hw : wantF E x.g with
  | none => rw [hw] at h; exact h.elim
  | some b =>
    rw [hw] at h
    rw [wantF_sound h2 st.en hw]
    cases b with
    | false =>
      simp only [Bool.false_eq_true, if_false]
      refine ⟨fun f _ => hF.fn f, ?_⟩
      rw [hdst]
      obtain ⟨-, -, hc⟩ := h
      refine hK _ _ _ _ _ hc ⟨?_, st.sm, st.fr.later (Later.refl _) put_size put_defers fun _ _ _ => rfl⟩
      exact EnvR.putF (c' := cx B M σ w) (fun x hx => by rw [st.size]; exact hlt x hx) st.en (fun t u hu => ⟨hu, fun _ h => h⟩) (.tup [] [] .nil)
    | true =>
      simp only [if_true]
      classical
      refine inst_sound hF ⟨fun f vs kk hh => hp_calls hh, fun l hh => by simp [HP] at hh, fun f t n hh => by simp [HP] at hh, fun f t l c kk hh => by simp [HP] at hh, fun f hh => by simp [HP] at hh⟩ st.sm st.en h3 (outI_ev hdr h) K Q fun v e v' w' hk hp => ?_
      split at hk
      · rename_i hh
        obtain ⟨hf, hse, hc⟩ := hh
        obtain ⟨σ', st'⟩ := applyF_sound st hlt hf hse hp
        rw [hdst]
        exact hK _ _ _ _ _ hc st'
      · simp at hk
end
end Go.Ge
