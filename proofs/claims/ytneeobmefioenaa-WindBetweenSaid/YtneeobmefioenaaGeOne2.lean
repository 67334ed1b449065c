/- Stores; packing. -/
import Derived.Test.YtneeobmefioenaaGeMem
namespace Go.Ge
open Go Go.RowKit

theorem VR.weaken {c : Cx} {t : Ty} {l : List (T t)} {b e bor : Bool} {v' : Value} (h : VR c (.sl t l b e) v') (hb : b = true → bor = true) : VR c (.sl t l bor false) v' := by
  cases h with
  | slE _ _ _ a cap hx => exact .slE t bor false a cap (by simp)
  | slN _ _ _ _ blk off cap cs h1 h2 h3 h4 h5 h6 h7 =>
    refine .slN t l bor false blk off cap cs h1 h2 (fun e2 => h3 ?_) h4 (by simp) h6 ?_
    · cases b with
      | false => rfl
      | true => have := hb rfl; rw [e2] at this; exact absurd this (by simp)
    · cases b with
      | false =>
        cases bor with
        | false => exact h7
        | true => exact lend_flat (lend_unpack t) l cs h7
      | true => have := hb rfl; subst this; exact h7
theorem castL_eq {a : Ty} (h : a = a) (l : List (T a)) : castL h l = l := rfl
theorem pack_sound {c : Cx} {bor : Bool} : ∀ (t : Ty) {l : List V} {l' : List Value} {x : T t} {r : List V}, pack t l = some (x, r) → VRs c l l' → (∀ y, y ∈ l → borV 5 y = true → bor = true) →
    ∃ l1 l2, l' = l1 ++ l2 ∧ VRs c (unpack bor t x) l1 ∧ VRs c r l2 ∧ (∀ y, y ∈ r → y ∈ l) := by
  intro t
  induction t with
  | bool =>
    intro l l' x r h hv hb
    cases l with
    | nil => simp [pack] at h
    | cons z zs =>
      cases z <;> simp [pack] at h
      case b =>
        obtain ⟨rfl, rfl⟩ := h
        cases hv with | cons a b => exact ⟨[_], _, rfl, .cons a .nil, b, fun y hy => by simp [hy]⟩
  | int kd =>
    intro l l' x r h hv hb
    cases l with
    | nil => simp [pack] at h
    | cons z zs =>
      cases z <;> simp [pack] at h
      case i =>
        obtain ⟨rfl, rfl, rfl⟩ := h
        cases hv with | cons a b => exact ⟨[_], _, rfl, .cons a .nil, b, fun y hy => by simp [hy]⟩
  | str =>
    intro l l' x r h hv hb
    cases l with
    | nil => simp [pack] at h
    | cons z zs =>
      cases z <;> simp [pack] at h
      case s =>
        obtain ⟨rfl, rfl⟩ := h
        cases hv with | cons a b => exact ⟨[_], _, rfl, .cons a .nil, b, fun y hy => by simp [hy]⟩
  | unit =>
    intro l l' x r h hv hb
    simp only [pack, Option.some.injEq, Prod.mk.injEq] at h
    obtain ⟨-, rfl⟩ := h
    exact ⟨[], l', rfl, .nil, hv, fun y hy => hy⟩
  | prod p q ihp ihq =>
    intro l l' x r h hv hb
    simp only [pack] at h
    split at h
    · rename_i x1 r1 h1
      split at h
      · rename_i x2 r2 h2
        simp only [Option.some.injEq, Prod.mk.injEq] at h
        obtain ⟨rfl, rfl⟩ := h
        obtain ⟨a1, a2, rfl, v1, v2, m1⟩ := ihp h1 hv hb
        obtain ⟨b1, b2, rfl, v3, v4, m2⟩ := ihq h2 v2 (fun y hy => hb y (m1 y hy))
        exact ⟨a1 ++ b1, b2, by simp, v1.append v3, v4, fun y hy => m1 y (m2 y hy)⟩
      · simp at h
    · simp at h
  | slice t ih =>
    intro l l' x r h hv hb
    cases l with
    | nil => simp [pack] at h
    | cons z zs =>
      cases z <;> simp [pack] at h
      case sl t' l0 b0 e0 =>
        obtain ⟨⟨rfl, rfl⟩, rfl⟩ := h
        cases hv with
        | cons a b =>
          refine ⟨[_], _, rfl, .cons ?_ .nil, b, fun y hy => by simp [hy]⟩
          exact a.weaken fun hb0 => hb (V.sl t' l0 b0 e0) (by simp) (by simp [borV, hb0])
theorem packAll_sound {c : Cx} {bor : Bool} {t : Ty} {l : List V} {l' : List Value} {x : T t} (h : packAll t l = some x) (hv : VRs c l l') (hb : ∀ y, y ∈ l → borV 5 y = true → bor = true) :
    VRs c (unpack bor t x) l' := by
  unfold packAll at h
  split at h
  · rename_i y hy
    simp only [Option.some.injEq] at h
    subst h
    obtain ⟨l1, l2, rfl, h1, h2, _⟩ := pack_sound t hy hv hb
    cases h2
    simpa using h1
  · simp at h
theorem over_spec : ∀ {cs ds ds' : List V}, over cs ds = some ds' → ∃ m q, ds = m ++ q ∧ m.length = cs.length ∧ ds' = cs ++ q
  | [], ds, ds', h => by simp [over] at h; subst h; exact ⟨[], ds, rfl, rfl, rfl⟩
  | c :: cs, [], ds', h => by simp [over] at h
  | c :: cs, d :: ds, ds', h => by
    simp only [over] at h
    split at h
    · rename_i l hl
      simp only [Option.some.injEq] at h
      subst h
      obtain ⟨m, q, rfl, h1, rfl⟩ := over_spec hl
      exact ⟨d :: m, q, rfl, by simp [h1], rfl⟩
    · simp at h
theorem fillN_spec {cs : List V} : ∀ {off : Nat} {ds ds' : List V}, fillN cs off ds = some ds' → ∃ p m q, ds = p ++ m ++ q ∧ p.length = off ∧ m.length = cs.length ∧ ds' = p ++ cs ++ q
  | 0, ds, ds', h => by
    simp only [fillN] at h
    obtain ⟨m, q, rfl, h1, rfl⟩ := over_spec h
    exact ⟨[], m, q, rfl, rfl, h1, rfl⟩
  | off + 1, [], ds', h => by simp [fillN] at h
  | off + 1, d :: ds, ds', h => by
    simp only [fillN] at h
    split at h
    · rename_i l hl
      simp only [Option.some.injEq] at h
      subst h
      obtain ⟨p, m, q, rfl, h1, h2, rfl⟩ := fillN_spec hl
      exact ⟨d :: p, m, q, rfl, by simp [h1], h2, rfl⟩
    · simp at h
theorem unpack_bor (n : Nat) : ∀ (t : Ty) (y : T t) (x : V), x ∈ unpack false t y → borV (n + 1) x = false
  | .bool, y, x, h => by simp [unpack] at h; subst h; rfl
  | .int _, y, x, h => by simp [unpack] at h; subst h; rfl
  | .str, y, x, h => by simp [unpack] at h; subst h; rfl
  | .unit, y, x, h => by simp [unpack] at h
  | .prod a b, y, x, h => by
    simp [unpack] at h
    rcases h with h | h
    · exact unpack_bor n a _ x h
    · exact unpack_bor n b _ x h
  | .slice t, y, x, h => by simp [unpack] at h; subst h; rfl

section
variable {R : Type} {r : R} {B : Nat → Prop} {M : Nat → Option Blk} {σ : Nat → Slot} {w1 w : World}
/-- What a store does. -/
theorem stK_spec {P : Program} (sm : Sm w1 B M σ w) {p : V} {p' : Value} (hp : VR (cx B M σ w) p p') {n d : Nat} {xs : List V} {x' : List Value} (hx : VRs (cx B M σ w) xs x') {kk : Nat → Blk → Option R} (h : stK M p n xs kk = some r) :
    ∃ b blk ad w', kk b blk = some r ∧ p' = .pointer (some ad) ∧ x'.length = n ∧ (storeCells ad x').run P w = .ok () w' ∧ Post w1 B M σ w d { set := some (b, blk) } (.tup []) undef w' := by
  simp only [stK, cond_eq_ite, Bool.and_eq_true, Nat.beq_eq] at h
  split at h
  · rename_i hn
    obtain ⟨hn, hsc⟩ := hn
    have hpl := hx.plain hsc
    cases p <;> simp only at h <;> (try (simp at h; done))
    case pb kb off =>
      split at h
      · rename_i ds hM
        split at h
        · rename_i ds' hds
          obtain ⟨p, m, q, rfl, h1, h2, rfl⟩ := fillN_spec hds
          obtain ⟨hs, cs', e, he, hvs⟩ := sm.blk kb _ hM
          obtain ⟨a1, q', rfl, ha1, hq'⟩ := VRs.split hvs
          obtain ⟨p', m', rfl, hp', hm'⟩ := VRs.split ha1
          simp only [cx] at he
          have hlen : m'.length = x'.length := by rw [← hm'.length, h2, hx.length]
          have hst := storeL_heap (cs := x') he hlen
          have hpo : p'.length = off := by rw [← hp'.length, h1]
          rw [hpo] at hst
          obtain ⟨r1, r2, r3, r4⟩ := storeL_rest (b := (σ kb).blk) (cs := x') (o := off) (w := w)
          refine ⟨kb, _, ⟨(σ kb).blk, off, none⟩, storeL w (σ kb).blk off x', h, hp.pb_inv, by rw [← hx.length, hn], ?_, ?_⟩
          · have := run_storeCells (P := P) (o := off) (i := 0) (cs := x') hpl he (by simp; omega)
            simpa using this
          · intro _ _
            obtain ⟨s, L⟩ := sm.set (w' := storeL w (σ kb).blk off x') (blk := .cells (p ++ xs ++ q)) hM rfl rfl r1 r2 r3 r4 (fun r hr => storeL_other hr) (fun _ _ _ _ _ e => by cases e) (fun L => by
              refine ⟨?_, p' ++ x' ++ q', e, ?_, ?_⟩
              · simp only [List.all_append, Bool.and_eq_true] at hs ⊢
                exact ⟨⟨hs.1.1, hsc⟩, hs.2⟩
              · exact hst
              · exact ((hp'.append hx).append hq').later L fun _ _ _ => .inr rfl)
            exact ⟨σ, s, L, fun _ => .inl rfl, .tup [] [] .nil⟩
        · simp at h
      · simp at h
    case pr kb idx sz off =>
      split at h
      · rename_i t l hM
        split at h
        · rename_i x hxi
          simp only [Bool.not_eq_true'] at h
          split at h
          · rename_i hc
            obtain ⟨hsz, hnb⟩ := hc
            split at h
            · rename_i ds' hds
              split at h
              · rename_i y hy
                obtain ⟨p, m, q, hu, h1, h2, rfl⟩ := fillN_spec hds
                have hblk := sm.blk kb _ hM
                cases l with
                | nil => simp at hxi
                | cons z zs =>
                  obtain ⟨cs', rest, e, cap, he, hvs, hsv, hcap, hszz⟩ := hblk
                  obtain ⟨pp, qq, hfl, hpl2, hpp, hqq⟩ := flatMap_at (unpack false t) (length_unpack false t) hxi
                  rw [hfl] at hvs
                  obtain ⟨a1, qq', rfl, ha1, hqq'⟩ := VRs.split hvs
                  obtain ⟨pp', u', rfl, hpp', hu'⟩ := VRs.split ha1
                  rw [hu] at hu'
                  obtain ⟨b1, q', rfl, hb1, hq'⟩ := VRs.split hu'
                  obtain ⟨p', m', rfl, hp', hm'⟩ := VRs.split hb1
                  simp only [cx] at he
                  have hlen : m'.length = x'.length := by rw [← hm'.length, h2, hx.length]
                  have he2 : w.heap[(σ kb).blk]? = some (.cells ((pp' ++ p') ++ m' ++ (q' ++ qq' ++ rest)).toArray e (0, 0)) := by rw [he]; simp
                  have hst := storeL_heap (cs := x') he2 hlen
                  have hpo : (pp' ++ p').length = idx * sz + off := by rw [List.length_append, ← hp'.length, h1, ← hpp'.length, hpl2, hsz]
                  rw [hpo] at hst
                  obtain ⟨r1, r2, r3, r4⟩ := storeL_rest (b := (σ kb).blk) (cs := x') (o := idx * sz + off) (w := w)
                  have hreal : Blk.real (.row t ((z :: zs).set idx y)) = true := by cases idx <;> rfl
                  refine ⟨kb, _, ⟨(σ kb).blk, idx * sz + off, none⟩, storeL w (σ kb).blk (idx * sz + off) x', h, hp.pr_inv, by rw [← hx.length, hn], ?_, ?_⟩
                  · have := run_storeCells (P := P) (o := idx * sz + off) (i := 0) (cs := x') hpl he2 (by simp only [List.size_toArray, List.length_append]; simp only [List.length_append] at hpo; omega)
                    simpa using this
                  · intro _ _
                    obtain ⟨s, L⟩ := sm.set (w' := storeL w (σ kb).blk (idx * sz + off) x') (blk := .row t ((z :: zs).set idx y)) hM rfl hreal r1 r2 r3 r4 (fun r hr => storeL_other hr) (fun _ _ _ _ _ e => by cases e) (fun L => by
                      have hyv : VRs (cx B M σ w) (unpack false t y) (p' ++ x' ++ q') := packAll_sound hy ((hp'.append hx).append hq') (fun z2 hz2 hb2 => by
                        simp only [List.mem_append] at hz2
                        rcases hz2 with (hz2 | hz2) | hz2
                        · have := unpack_bor 4 t x z2 (by rw [hu]; simp [hz2]); rw [this] at hb2; exact absurd hb2 (by simp)
                        · rw [List.any_eq_false] at hnb; exact absurd hb2 (hnb z2 hz2)
                        · have := unpack_bor 4 t x z2 (by rw [hu]; simp [hz2]); rw [this] at hb2; exact absurd hb2 (by simp))
                      have hrow : VRs (cx B M σ w) (((z :: zs).set idx y).flatMap (unpack false t)) (pp' ++ (p' ++ x' ++ q') ++ qq') := by
                        rw [flatMap_set (unpack false t) y hxi, ← hpp, ← hqq]
                        exact (hpp'.append hyv).append hqq'
                      have hb2 : BlkR (up M kb (some (.row t ((z :: zs).set idx y)))) (cx B (up M kb (some (.row t ((z :: zs).set idx y)))) σ (storeL w (σ kb).blk (idx * sz + off) x')) kb (.row t ((z :: zs).set idx y)) := by
                        have hlen2 : ((z :: zs).set idx y).length = (z :: zs).length := by simp
                        generalize hls : (z :: zs).set idx y = ls at hrow hlen2 ⊢
                        cases ls with
                        | nil => simp at hlen2
                        | cons a b =>
                          refine ⟨pp' ++ (p' ++ x' ++ q') ++ qq', rest, e, cap, ?_, rowVals_later (by rw [← hls]; exact L) hrow, ?_, by rw [hlen2]; exact hcap, ?_⟩
                          · show (storeL w (σ kb).blk (idx * sz + off) x').heap[(σ kb).blk]? = _
                            rw [hst]; simp
                          · rw [hlen2]; exact hsv
                          · simp only [List.length_append] at hszz ⊢; omega
                      exact hb2)
                    exact ⟨σ, s, L, fun _ => .inl rfl, .tup [] [] .nil⟩
              · simp at h
            · simp at h
          · simp at h
        · simp at h
      · simp at h
  · simp at h
end
end Go.Ge
