/- Two instructions change places; one comes first. -/
import Derived.Test.YtneeobmefioenaaGeChain4
namespace Go.Ge
open Go Go.RowKit

theorem effM_nil {d : Nat} {M : Nat → Option Blk} : effM d {} M = M := rfl
theorem up_comm {α : Type} {f : Nat → α} {a b : Nat} {x y : α} (h : a ≠ b) : up (up f a x) b y = up (up f b y) a x := by
  funext k
  simp only [up]
  by_cases h1 : k = b
  · subst h1; simp [Ne.symm h]
  · simp [h1]
section
variable {x j : II} {E : Nat → Option V} {M : Nat → Option Blk} {v : V} {e : Eff}
theorem outE_plain (h : nmI x.i = true ∨ roI x.i = true ∨ callI x.i = true) (ho : OutE x E M v e) : e = {} := by
  rcases ho with ⟨hc, h1 | h1⟩ | ⟨-, rfl⟩
  · exact h1.2.2
  · rcases h with h | h | h
    · exact nm_eff (.inl h) h1.2
    · exact nm_eff (.inr h) h1.2
    · rw [h] at hc; simp at hc
  · rfl
theorem outE_al {zs : List V} (hi : x.i = .al zs) (ho : OutE x E M v e) : (v = .tup [] ∧ e = {}) ∨ (v = .pb (x.dst.getD 0) 0 ∧ e = { new := some (.cells zs) }) := by
  rcases ho with ⟨hc, h1 | h1⟩ | ⟨hc, -⟩
  · exact .inl ⟨h1.2.1, h1.2.2⟩
  · rw [hi] at h1
    simp only [evD, evI, Option.some.injEq, Prod.mk.injEq] at h1
    exact .inr ⟨h1.2.1.symm, h1.2.2.symm⟩
  · rw [hi] at hc; simp [callI] at hc
theorem outE_wr (h : wrI x.i = true) (ho : OutE x E M v e) : e.cut = none := by
  rcases ho with ⟨hc, h1 | h1⟩ | ⟨hc, rfl⟩
  · rw [h1.2.2]
  · obtain ⟨-, h1⟩ := h1
    unfold evD at h1
    cases hi : x.i <;> rw [hi] at h h1 <;> (try (simp [wrI] at h; done)) <;> simp only [evI, stK, cond_eq_ite] at h1 <;> (repeat' split at h1) <;>
      first
        | (simp at h1; done)
        | (simp only [Option.some.injEq, Prod.mk.injEq] at h1; rw [← h1.2])
  · rfl
end
/-- The names of new blocks. -/
def newsX (x : II) : List Nat :=
  match x.dst with
  | some d => if isNew x.i then [d] else []
  | none => []
theorem not_mem_rd {x : II} {d : Option Nat} (h : (match d with | some d => !(rdX x).contains d | none => true) = true) {v : V} {E : Nat → Option V} : ∀ t, t ∈ rdX x → putF d v E t = E t := by
  intro t ht
  cases d with
  | none => rfl
  | some d =>
    simp only [Bool.not_eq_true', List.contains_eq_mem, decide_eq_false_iff_not] at h
    simp only [putF]
    rw [if_neg]
    rintro rfl
    exact h ht
/-- j may stand before x. -/
theorem swap {P : Program} {x j : II} {q : List II} {E : Nat → Option V} {M : Nat → Option Blk} {G : (Nat → Option V) → (Nat → Option Blk) → Prop} (hp : pairOk0 x j = true)
    (hold : ∀ d v, x.dst = some d → E d = some v → ∀ b, b ∈ newsX j → mentions b 5 v = false) (hal : isAl x.i = true → isAl j.i = true → ∀ d, x.dst = some d → M d = none)
    (h : Chain P (x :: j :: q) E M G) : Chain P (j :: x :: q) E M G := by
  simp only [pairOk0, Bool.and_eq_true] at hp
  obtain ⟨⟨⟨⟨h1, h2⟩, h3⟩, h4⟩, h5⟩ := hp
  have hdne : ∀ a b, x.dst = some a → j.dst = some b → a ≠ b := by
    intro a b ha hb
    rw [ha, hb] at h1
    simp only [Bool.and_eq_true, Bool.not_eq_true', beq_eq_false_iff_ne] at h1
    intro e
    subst e
    simp at h1
  have hxj : ∀ v t, t ∈ rdX j → putF x.dst v E t = E t := fun v => not_mem_rd (by
    cases hx : x.dst with
    | none => rfl
    | some d => rw [hx] at h1; simp only [Bool.and_eq_true] at h1; exact h1.1)
  have hjx : ∀ v t, t ∈ rdX x → putF j.dst v E t = E t := fun v => not_mem_rd h2
  -- the kinds
  have hkx : (nmI x.i = true ∨ roI x.i = true ∨ callI x.i = true) ∨ (isAl x.i = true ∧ isAl j.i = true) := by
    simp only [kindOk, Bool.or_eq_true, Bool.and_eq_true] at h3
    rcases h3 with (h3 | h3) | h3
    · rcases h3.1.1 with (h | h) | h
      · exact .inl (.inl h)
      · exact .inl (.inr (.inl h))
      · exact .inl (.inr (.inr h))
    · exact .inl (.inl h3.1)
    · cases hj : j.i <;> rw [hj] at h3 <;> simp only [] at h3 <;> (try (simp at h3; done))
      · simp only [Bool.or_eq_true, Bool.and_eq_true] at h3
        rcases h3.1.1 with (h | h) | h
        · exact .inl (.inr (.inl h))
        · exact .inl (.inr (.inr h))
        · exact .inr ⟨h, rfl⟩
      · cases hx : x.i <;> rw [hx] at h3 <;> (try (simp at h3; done))
        exact .inl (.inr (.inl rfl))
      · cases hx : x.i <;> rw [hx] at h3 <;> (try (simp at h3; done))
        · exact .inl (.inr (.inl rfl))
        · exact .inl (.inr (.inl rfl))
  have hkj : (nmI j.i = true ∨ roI j.i = true ∨ callI j.i = true) ∨ wrI j.i = true := by
    simp only [kindOk, Bool.or_eq_true, Bool.and_eq_true] at h3
    rcases h3 with (h3 | h3) | h3
    · rcases h3.1.2 with (h | h) | h
      · exact .inl (.inl h)
      · exact .inl (.inr (.inl h))
      · exact .inl (.inr (.inr h))
    · exact .inr h3.2
    · cases hj : j.i <;> rw [hj] at h3 <;> simp only [] at h3 <;> first | (simp at h3; done) | exact .inr rfl
  have hcc : (callI x.i && callI j.i) = false := by
    simp only [kindOk, Bool.or_eq_true, Bool.and_eq_true] at h3
    rcases h3 with (h3 | h3) | h3
    · have h9 := h3.2
      cases h7 : callI x.i <;> cases h8 : callI j.i <;> rw [h7, h8] at h9 <;> first | rfl | (simp at h9)
    · cases hj : j.i <;> rw [hj] at h3 <;> simp [wrI, callI] at h3 ⊢
    · cases hj : j.i <;> rw [hj] at h3 <;> simp [callI] at h3 ⊢
  have cutx : ∀ {v e}, OutE x E M v e → e.cut = none := by
    intro v e ho
    rcases hkx with hk | ⟨hk, -⟩
    · rw [outE_plain hk ho]
    · exact outE_wr (by cases hi : x.i <;> rw [hi] at hk <;> first | (simp [isAl] at hk; done) | rfl) ho
  have cutj : ∀ {v e}, OutE j E M v e → e.cut = none := by
    intro v e ho
    rcases hkj with hk | hk
    · rw [outE_plain hk ho]
    · exact outE_wr hk ho
  have alx : ∀ {v e}, OutE x E M v e → e = {} ∨ (isAl x.i = true ∧ isAl j.i = true ∧ ∃ zs, x.i = .al zs ∧ v = .pb (x.dst.getD 0) 0 ∧ e = { new := some (.cells zs) }) := by
    intro v e ho
    rcases hkx with hk | ⟨hk, hk2⟩
    · exact .inl (outE_plain hk ho)
    · cases hi : x.i <;> rw [hi] at hk <;> (try (simp [isAl] at hk; done))
      rename_i zs
      rcases outE_al hi ho with ⟨-, h⟩ | ⟨h, h'⟩
      · exact .inl h
      · exact .inr ⟨rfl, hk2, zs, rfl, h, h'⟩
  -- j's outcome does not hang on x
  have keyA : ∀ {v e} {K : V → Eff → Prop}, OutE x E M v e → Out P j (putF x.dst v E) (effM (x.dst.getD 0) e M) K → Out P j E M K := by
    intro v e K ho hk
    rw [out_congrE (hxj v)] at hk
    rcases alx ho with rfl | ⟨-, ha, -⟩
    · exact hk
    · cases hi : j.i <;> rw [hi] at ha <;> (try (simp [isAl] at ha; done))
      rw [out_congrM (x := j) (M := M) (by rw [hi]; rfl) (by rw [hi]; rfl)] at hk
      exact hk
  have main := out_swap (K := fun vx ex vj ej => OutE x E M vx ex ∧ FreeF x.dst E M ex ∧ (ex.set = none ∨ ex.new = none) ∧ OutE j E M vj ej ∧ FreeF j.dst (putF x.dst vx E) (effM (x.dst.getD 0) ex M) ej ∧ (ej.set = none ∨ ej.new = none) ∧
      Chain P q (putF j.dst vj (putF x.dst vx E)) (effM (j.dst.getD 0) ej (effM (x.dst.getD 0) ex M)) G) hcc (Out_mono (fun vx ex hk => by
    obtain ⟨ho, hfx, hsx, hj⟩ := hk
    have hc := cutx ho
    rw [hc] at hfx hj
    simp only [cutF, cutM] at hfx hj
    refine Out_mono (fun vj ej hk => ?_) (out_and (keyA ho hj))
    obtain ⟨hoj, hfj, hsj, hch⟩ := hk
    have hcj := cutj hoj
    rw [hcj] at hfj hch
    simp only [cutF, cutM] at hfj hch
    exact ⟨ho, hfx, hsx, hoj, hfj, hsj, hch⟩) (out_and h))
  show Out P j E M _
  refine Out_mono (fun vj ej hk => ?_) main
  obtain ⟨vx0, ex0, ho0, hfx0, hsx0, hoj, hfj0, hsj, -⟩ := out_ex hk
  have hcj := cutj hoj
  rw [hcj]
  simp only [cutF, cutM]
  -- j's new block, before x
  have hfj : FreeF j.dst E M ej := by
    refine ⟨fun hn => ?_, hfj0.2⟩
    obtain ⟨q1, q2, q3⟩ := hfj0.1 hn
    have hnew : isNew j.i = true := by
      rcases hkj with hk2 | hk2
      · rw [outE_plain hk2 hoj] at hn; simp at hn
      · cases hi : j.i <;> rw [hi] at hk2 <;> (try (simp [wrI] at hk2; done)) <;> (try rfl)
        · rcases hoj with ⟨hcj2, hoj | hoj⟩ | ⟨hcj2, rfl⟩
          · rw [hoj.2.2] at hn; simp at hn
          · obtain ⟨p, b, blk, -, -, he, -⟩ := st_eff (by rw [hi]) hoj.2; rw [he] at hn; simp at hn
          · simp at hn
        · rcases hoj with ⟨hcj2, hoj | hoj⟩ | ⟨hcj2, rfl⟩
          · rw [hoj.2.2] at hn; simp at hn
          · obtain ⟨p, b, blk, -, -, he, -⟩ := st_eff (by rw [hi]) hoj.2; rw [he] at hn; simp at hn
          · simp at hn
    obtain ⟨dj, hdj⟩ := Option.isSome_iff_exists.1 q1
    refine ⟨q1, fun t v ht => ?_, fun k b hkb hne => ?_⟩
    · by_cases hx : x.dst = some t
      · exact hold t v hx ht _ (by simp [newsX, hdj, hnew])
      · refine q2 t v ?_
        cases hxd : x.dst with
        | none => exact ht
        | some d =>
          simp only [putF]
          rw [if_neg fun e => hx (by rw [hxd, e])]
          exact ht
    · rcases alx ho0 with rfl | ⟨ha, hb, zs, hzs, -, rfl⟩
      · exact q3 k b hkb hne
      · refine q3 k b ?_ hne
        have hxs : x.dst.isSome = true := by rw [ha] at h5; simpa using h5
        obtain ⟨dx, hdx⟩ := Option.isSome_iff_exists.1 hxs
        have hn0 := hal ha hb dx hdx
        simp only [effM, hdx, Option.getD_some]
        rw [up_ne _ _ (fun e => by subst e; rw [hn0] at hkb; simp at hkb)]
        exact hkb
  refine ⟨hfj, hsj, ?_⟩
  -- x's outcome does not hang on j
  have keyB : ∀ {K : V → Eff → Prop}, Out P x E M K → Out P x (putF j.dst vj E) (effM (j.dst.getD 0) ej M) K := by
    intro K hx
    rw [out_congrE (hjx vj)]
    by_cases hej : ej = {}
    · subst hej; exact hx
    · have hw : wrI j.i = true := hkj.resolve_left fun hk2 => hej (outE_plain hk2 hoj)
      by_cases hnm : nmI x.i = true
      · rw [out_congrM (M := M) (by cases hi : x.i <;> rw [hi] at hnm <;> first | (simp [nmI] at hnm; done) | rfl) (by unfold evD; exact nm_mem hnm)]
        exact hx
      · simp only [kindOk, Bool.or_eq_true, Bool.and_eq_true] at h3
        have h3' := (h3.resolve_left (by
          rintro (h6 | h6)
          · rcases h6.1.2 with (h | h) | h <;> cases hi : j.i <;> rw [hi] at h hw <;> simp [nmI, roI, callI, wrI] at h hw
            · have := outE_plain (.inl (by rw [hi]; simpa [nmI] using h)) hoj; exact hej this
          · exact hnm h6.1))
        have hnj : ∀ {v e}, OutIs j E M v e → e ≠ {} → evD j.i (j.dst.getD 0) E M = some (v, e) := by
          rintro v e (⟨-, -, rfl⟩ | ⟨-, h⟩) hne
          · exact absurd rfl hne
          · exact h
        have hojs : callI j.i = false → OutIs j E M vj ej := fun hc => by
          rcases hoj with ⟨-, h⟩ | ⟨h, -⟩
          · exact h
          · rw [hc] at h; simp at h
        cases hj : j.i <;> rw [hj] at h3' <;> simp only [] at h3' <;> (try (simp at h3'; done))
        case al zs =>
          simp only [Bool.or_eq_true, Bool.and_eq_true, Bool.not_eq_true'] at h3'
          obtain ⟨⟨h6, h7⟩, h8⟩ := h3'
          rcases outE_al hj hoj with ⟨-, he⟩ | ⟨hv, he⟩
          · exact absurd he hej
          · subst he
            obtain ⟨q1, q2, q3⟩ := hfj.1 rfl
            have hMM : ∀ k, k ≠ j.dst.getD 0 → effM (j.dst.getD 0) { new := some (.cells zs) } M k = M k := fun k hk => up_ne _ _ hk
            rcases h6 with (h6 | h6) | h6
            · rw [out_congrM (M := M) (by cases hi : x.i <;> rw [hi] at h6 <;> first | (simp [roI] at h6; done) | rfl) (ro_fresh h6 hMM q2 h7)]
              exact hx
            · unfold Out at hx ⊢
              split at hx
              · exact hx
              · exact hx
              · cases hi : x.i <;> rw [hi] at h6 hx h7 <;> (try (simp [callI] at h6; done))
                rw [call_fresh hMM q3 q2 h7]
                exact hx
            · cases hi : x.i <;> rw [hi] at h6 <;> (try (simp [isAl] at h6; done))
              rw [out_congrM (M := M) (by rw [hi]; rfl) (by rw [hi]; rfl)]
              exact hx
        case st n p y =>
          cases hi : x.i <;> rw [hi] at h3' <;> (try (simp at h3'; done))
          have hd := hnj (hojs (by rw [hj]; rfl)) hej
          rw [hj] at hd
          obtain ⟨p2, b, blk, -, -, he, -, hs⟩ := st_eff rfl hd
          subst he
          rw [out_congrM (M := M) (by rw [hi]; rfl) (by rw [hi]; exact ixs_store hs)]
          exact hx
        case sta n p y av =>
          have hd := hnj (hojs (by rw [hj]; rfl)) hej
          rw [hj] at hd
          obtain ⟨p2, b, blk, hpp, -, he, ⟨pv2, hpv2, hkey⟩, hs⟩ := st_eff rfl hd
          subst he
          cases hi : x.i <;> rw [hi] at h3' <;> (try (simp at h3'; done))
          case ixs => 
            rw [out_congrM (M := M) (by rw [hi]; rfl) (by rw [hi]; exact ixs_store hs)]
            exact hx
          case ld n2 ag2 px =>
            simp only [List.any_eq_true] at h3'
            obtain ⟨o, ho, hoo⟩ := h3'
            cases px <;> cases o <;> simp only [opdT] at hoo <;> (try (simp at hoo; done))
            rename_i tx to
            simp only [Nat.beq_eq] at hoo
            subst hoo
            obtain ⟨n3, x3, hh | ⟨av3, qs, hh, hqs, pv, hpv, hall⟩⟩ := hpp
            · simp at hh
            · simp only [I.sta.injEq] at hh
              obtain ⟨-, rfl, -, rfl⟩ := hh
              rw [hpv] at hpv2
              simp only [Option.some.injEq] at hpv2
              subst hpv2
              obtain ⟨hl, hget⟩ := mapO_spec hqs
              obtain ⟨ii, hii, hie⟩ := List.mem_iff_getElem.1 ho
              obtain ⟨qv, hqv1, hqv2⟩ := hget ii _ (by rw [List.getElem?_eq_getElem hii, hie])
              have hap := List.all_eq_true.1 hall qv (List.mem_of_getElem? hqv2)
              rw [out_congrM (M := M) (by rw [hi]; rfl) (by
                rw [hi]
                refine ld_store hqv1 fun hkq => ?_
                simp only [apartK, hkey, hkq] at hap
                simp at hap)]
              exact hx
  refine Out_mono (fun vx ex hkx2 => ?_) (keyB hk)
  obtain ⟨ho, hfx, hsx, -, -, -, hch⟩ := hkx2
  have hc := cutx ho
  rw [hc]
  simp only [cutF, cutM]
  refine ⟨⟨fun hn => ?_, hfx.2⟩, hsx, ?_⟩
  · obtain ⟨q1, q2, q3⟩ := hfx.1 hn
    rcases alx ho with rfl | ⟨ha, hb, zs, hzs, -, rfl⟩
    · simp at hn
    · obtain ⟨dx, hdx⟩ := Option.isSome_iff_exists.1 q1
      cases hj : j.i <;> rw [hj] at hb <;> (try (simp [isAl] at hb; done))
      rename_i zj
      have hjs : j.dst.isSome = true := by rw [hj] at h4; simpa [isAl] using h4
      obtain ⟨dj, hdj⟩ := Option.isSome_iff_exists.1 hjs
      have hne := hdne dx dj hdx hdj
      have hzz : menB (x.dst.getD 0) (.cells zj) = false := by
        simp only [kindOk, Bool.or_eq_true, Bool.and_eq_true] at h3
        rcases h3 with (h6 | h6) | h6
        · rcases h6.1.2 with (h | h) | h <;> rw [hj] at h <;> simp [nmI, roI, callI] at h
        · rw [hzs] at h6; simp [nmI] at h6
        · rw [hj] at h6
          simp only [Bool.and_eq_true, Bool.not_eq_true'] at h6
          exact h6.2
      rcases outE_al hj hoj with ⟨hvj, he⟩ | ⟨hvj, he⟩
      · subst he
        refine ⟨q1, fun t v ht => ?_, q3⟩
        simp only [hdj, putF] at ht
        split at ht
        · simp only [Option.some.injEq] at ht; subst ht; rw [hvj]; rfl
        · exact q2 t v ht
      · subst he
        refine ⟨q1, fun t v ht => ?_, fun k b hkb hne2 => ?_⟩
        · simp only [hdj, putF] at ht
          split at ht
          · simp only [Option.some.injEq] at ht
            subst ht
            rw [hvj, hdx, hdj]
            simp only [Option.getD_some, mentions]
            cases h9 : Nat.beq dx dj with
            | false => rfl
            | true => exact absurd (Nat.eq_of_beq_eq_true h9) hne
          · exact q2 t v ht
        · simp only [effM, hdj, Option.getD_some] at hkb
          by_cases hkd : k = dj
          · subst hkd
            simp only [cutM, up_same, Option.some.injEq] at hkb
            subst hkb
            exact hzz
          · rw [up_ne _ _ hkd] at hkb
            exact q3 k b hkb hne2
  · have hE : putF x.dst vx (putF j.dst vj E) = putF j.dst vj (putF x.dst vx E) := by
      cases hx : x.dst with
      | none => rfl
      | some a =>
        cases hj : j.dst with
        | none => rfl
        | some b =>
          have hne := hdne a b hx hj
          funext t
          simp only [putF]
          by_cases h6 : t = a
          · subst h6; simp [hne]
          · simp [h6]
    have hM2 : effM (x.dst.getD 0) ex (effM (j.dst.getD 0) ej M) = effM (j.dst.getD 0) ej (effM (x.dst.getD 0) ex M) := by
      rcases alx ho with rfl | ⟨ha, hb, zs, hzs, -, rfl⟩
      · rfl
      · cases hj : j.i <;> rw [hj] at hb <;> (try (simp [isAl] at hb; done))
        rcases outE_al hj hoj with ⟨-, he⟩ | ⟨-, he⟩
        · subst he; rfl
        · subst he
          have hjs : j.dst.isSome = true := by rw [hj] at h4; simpa [isAl] using h4
          have hxs : x.dst.isSome = true := by rw [hzs] at h5; simpa [isAl] using h5
          obtain ⟨dj, hdj⟩ := Option.isSome_iff_exists.1 hjs
          obtain ⟨dx, hdx⟩ := Option.isSome_iff_exists.1 hxs
          simp only [effM, cutM, hdj, hdx, Option.getD_some]
          exact up_comm (Ne.symm (hdne dx dj hdx hdj))
    rw [hE, hM2]
    exact hch
end Go.Ge
