/- A frame's own blocks: what each holds, and what becomes of that from step to step. Values as they are handed on (snap) and blocks that are written no more (frz). -/
import Derived.Test.YtneeobmefioenaaGeRel
namespace Go.Ge
open Go Go.RowKit

def Blk.real : Blk → Bool
  | .row _ [] => false
  | .stk _ => false
  | _ => true
def own (M : Nat → Option Blk) (σ : Nat → Slot) (r : Nat) : Prop := ∃ k blk, M k = some blk ∧ blk.real = true ∧ (σ k).blk = r
def cx (B : Nat → Prop) (M : Nat → Option Blk) (σ : Nat → Slot) (w : World) : Cx := ⟨w, own M σ, σ, B⟩

def up {α : Type} (f : Nat → α) (d : Nat) (x : α) : Nat → α := fun k => if k = d then x else f k
theorem up_same {α : Type} (f : Nat → α) (d : Nat) (x : α) : up f d x d = x := by simp [up]
theorem up_ne {α : Type} (f : Nat → α) {d k : Nat} (x : α) (h : k ≠ d) : up f d x k = f k := by simp [up, h]

/-- The entries of a map, in the order in which they came. -/
structure MapR (c : Cx) (ka va : Bool) (kt vt : Ty) (l : List (T kt × T vt)) (es : Array MapEntry) (clock : Nat) : Prop where
  size : es.size = l.length
  clock : clock = l.length
  at_ : ∀ (j : Nat) (p : T kt × T vt), l[j]? = some p → ∃ e a v, es[j]? = some e ∧ e.born = j ∧ V.of ka (unpack false kt p.1) = some a ∧ VR c a e.key ∧ V.of va (unpack false vt p.2) = some v ∧ VR c v e.val

/-- A loop's record. -/
def LS.rcd (L : Loop) : LS → Loop
  | .ready => { L with state := .ready, pending := none }
  | .busy => { L with state := .busy, pending := none }
  | .ret => { L with state := .done, pending := some .ret }
  | .exit id => { L with state := .done, pending := some (.exit id) }
def VarsR (c : Cx) (e : List (Nat × V)) (tm : Array Value) : Prop := ∀ t v, lk t e = some v → ∃ v', tm[t]? = some v' ∧ VR c v v'
def BlkR (M : Nat → Option Blk) (c : Cx) (k : Nat) : Blk → Prop
  | .cells cs => cs.all scal = true ∧ ∃ cs' e, c.w.heap[(c.σ k).blk]? = some (.cells cs'.toArray e (0, 0)) ∧ VRs c cs cs'
  | .row _ [] => ∃ a, (c.σ k).sv = .slice a 0 0
  | .row t l => ∃ cs' rest e cap, c.w.heap[(c.σ k).blk]? = some (.cells (cs' ++ rest).toArray e (0, 0)) ∧ VRs c (l.flatMap (unpack false t)) cs' ∧
      (c.σ k).sv = .slice (some ⟨(c.σ k).blk, 0, none⟩) l.length cap ∧ l.length ≤ cap ∧ cap * tsize t ≤ (cs' ++ rest).length
  | .buf t => ∃ cs' e cap, c.w.heap[(c.σ k).blk]? = some (.cells (cs' : List Value).toArray e (0, 0)) ∧ (c.σ k).sv = .slice (some ⟨(c.σ k).blk, 0, none⟩) 0 cap ∧ cap * tsize t ≤ cs'.length
  | .map ka va kt vt l _ => ∃ es clock, c.w.heap[(c.σ k).blk]? = some (.map es clock) ∧ MapR c ka va kt vt l es clock
  | .itr m ka va kt vt l cur => ∃ lf es clock since seen stepped, c.w.heap[(c.σ k).blk]? = some (.mapIter (some (c.σ m).blk) since seen stepped) ∧
      (c.σ m).blk < c.w.heap.size ∧ (M m = some (.map ka va kt vt lf true) ∨ ¬ c.own (c.σ m).blk) ∧
      c.w.heap[(c.σ m).blk]? = some (.map es clock) ∧ MapR c ka va kt vt lf es clock ∧ since = lf.length ∧
      l = ((List.range lf.length).filter fun j => !seen.contains j).filterMap (fun j => lf[j]?) ∧ (seen ≠ #[] → stepped = lf.length) ∧
      (∀ p, cur = some p → ∃ j, lf[j]? = some p ∧ seen.back? = some j)
  | .stk e => VarsR c e (c.σ k).tm
  | .lp st e => ∃ L, (c.σ k).lp = some L ∧ c.w.heap[(c.σ k).blk]? = some (.loop (st.rcd L)) ∧ VarsR c e L.tmps

/-- A frame's blocks: w1, the world when it began. -/
structure Sm (w1 : World) (B : Nat → Prop) (M : Nat → Option Blk) (σ : Nat → Slot) (w : World) : Prop where
  below : Below w1.heap.size w1 w
  bB : ∀ r, B r → r < w1.heap.size
  base : ∀ k blk, M k = some blk → blk.real = true → w1.heap.size ≤ (σ k).blk ∧ (σ k).blk < w.heap.size
  inj : ∀ k k' blk blk', M k = some blk → M k' = some blk' → blk.real = true → blk'.real = true → (σ k).blk = (σ k').blk → k = k'
  blk : ∀ k blk, M k = some blk → BlkR M (cx B M σ w) k blk

theorem MapR.mono {c c' : Cx} {ka va : Bool} {kt vt : Ty} {l : List (T kt × T vt)} {es : Array MapEntry} {clock : Nat} (L : Later c c') (h : MapR c ka va kt vt l es clock) : MapR c' ka va kt vt l es clock := by
  refine ⟨h.size, h.clock, fun j p hp => ?_⟩
  obtain ⟨e, a, v, he, hb, ha, hra, hv, hrv⟩ := h.at_ j p hp
  have key : ∀ (t : Ty) (x : T t) (ag : Bool) (y : V), V.of ag (unpack false t x) = some y → ∀ k, (∃ n, mentions k n y = false) ∨ c'.σ k = c.σ k := by
    intro t x ag y hy k
    refine .inl ⟨2, ?_⟩
    cases ag with
    | true =>
      simp only [V.of, Option.some.injEq] at hy
      subst hy
      rw [mentions, List.any_eq_false]
      intro z hz
      simp [mentions_unpack k false t x z hz]
    | false =>
      simp only [V.of] at hy
      split at hy
      · rename_i z hz
        simp only [Option.some.injEq] at hy
        subst hy
        exact mentions_unpack_n k 1 false t x z (by rw [hz]; simp)
      · simp at hy
  exact ⟨e, a, v, he, hb, ha, hra.later L (key _ _ _ _ ha), hv, hrv.later L (key _ _ _ _ hv)⟩

theorem rowVals_later {c c' : Cx} (L : Later c c') {bor : Bool} {t : Ty} {l : List (T t)} {cs : List Value} (h : VRs c (l.flatMap (unpack bor t)) cs) : VRs c' (l.flatMap (unpack bor t)) cs :=
  h.later L fun x hx k => .inl (by
    simp only [List.mem_flatMap] at hx
    obtain ⟨y, _, hy⟩ := hx
    exact ⟨1, mentions_unpack k bor t y x hy⟩)

theorem lk_mem {α : Type} : ∀ {l : List (Nat × α)} {x : Nat} {v : α}, lk x l = some v → (x, v) ∈ l
  | [], x, v, h => by simp [lk] at h
  | (u, w) :: r, x, v, h => by
    simp only [lk, cond_eq_ite, Nat.beq_eq] at h
    split at h
    · rename_i e; simp at h; subst h; subst e; simp
    · exact List.mem_cons_of_mem _ (lk_mem h)
theorem VarsR.later {c c' : Cx} {e : List (Nat × V)} {tm : Array Value} (L : Later c c') (hm : ∀ k2, e.any (fun p => mentions k2 5 p.2) = false ∨ c'.σ k2 = c.σ k2) (h : VarsR c e tm) : VarsR c' e tm := by
  intro t v ht
  obtain ⟨v', h1, h2⟩ := h t v ht
  refine ⟨v', h1, h2.later L fun k2 => ?_⟩
  rcases hm k2 with h3 | h3
  · rw [List.any_eq_false] at h3
    exact .inl ⟨5, by simpa using h3 _ (lk_mem ht)⟩
  · exact .inr h3
/-- A block that the step left alone. -/
theorem BlkR.later {M M' : Nat → Option Blk} {c c' : Cx} (L : Later c c') {k : Nat} {blk : Blk} (hh : blk.real = true → c'.w.heap[(c.σ k).blk]? = c.w.heap[(c.σ k).blk]?) (hk : c'.σ k = c.σ k)
    (hm : ∀ k2, menB k2 blk = false ∨ c'.σ k2 = c.σ k2)
    (hi : ∀ m ka va kt vt l cur, blk = .itr m ka va kt vt l cur → ∀ lf, M m = some (.map ka va kt vt lf true) → (M' m = some (.map ka va kt vt lf true) ∨ ¬ c'.own (c'.σ m).blk) ∧ c'.w.heap[(c.σ m).blk]? = c.w.heap[(c.σ m).blk]?)
    (h : BlkR M c k blk) : BlkR M' c' k blk := by
  cases blk with
  | cells cs =>
    obtain ⟨hs, cs', e, he, hv⟩ := h
    refine ⟨hs, cs', e, by rw [hk, hh rfl]; exact he, hv.later L fun x hx k2 => ?_⟩
    rcases hm k2 with h2 | h2
    · simp only [menB, List.any_eq_false] at h2
      exact .inl ⟨5, by simpa using h2 x hx⟩
    · exact .inr h2
  | row t l =>
    cases l with
    | nil => obtain ⟨a, ha⟩ := h; exact ⟨a, by rw [hk]; exact ha⟩
    | cons x r =>
      obtain ⟨cs', rest, e, cap, he, hv, hsv, hcap, hsz⟩ := h
      exact ⟨cs', rest, e, cap, by rw [hk, hh rfl]; exact he, rowVals_later L hv, by rw [hk]; exact hsv, hcap, hsz⟩
  | buf t =>
    obtain ⟨cs', e, cap, he, hsv, hsz⟩ := h
    exact ⟨cs', e, cap, by rw [hk, hh rfl]; exact he, by rw [hk]; exact hsv, hsz⟩
  | map ka va kt vt l lo =>
    obtain ⟨es, clock, he, hr⟩ := h
    exact ⟨es, clock, by rw [hk, hh rfl]; exact he, hr.mono L⟩
  | itr m ka va kt vt l cur =>
    obtain ⟨lf, es, clock, since, seen, stepped, he, hlt, hM, hes, hr, h1, h2, h3, h4⟩ := h
    have em : c'.σ m = c.σ m := (hm m).resolve_left (by simp [menB])
    rcases hM with hM | hM
    · obtain ⟨a, b⟩ := hi m ka va kt vt l cur rfl lf hM
      exact ⟨lf, es, clock, since, seen, stepped, by rw [hk, em, hh rfl]; exact he, by rw [em]; exact Nat.lt_of_lt_of_le hlt L.size, a, by rw [em, b]; exact hes, hr.mono L, h1, h2, h3, h4⟩
    · exact ⟨lf, es, clock, since, seen, stepped, by rw [hk, em, hh rfl]; exact he, by rw [em]; exact Nat.lt_of_lt_of_le hlt L.size, .inr (by rw [em]; exact fun h => hM (L.own _ hlt h)), by rw [em, L.heap _ hlt hM]; exact hes, hr.mono L, h1, h2, h3, h4⟩
  | stk e =>
    have h' : VarsR c e (c.σ k).tm := h
    show VarsR c' e (c'.σ k).tm
    rw [hk]
    exact h'.later L hm
  | lp st e =>
    obtain ⟨Lp, h1, h2, h3⟩ := h
    exact ⟨Lp, by rw [hk]; exact h1, by rw [hk, hh rfl]; exact h2, h3.later L hm⟩

/-- Only new blocks, draws: whatever lay lies as it lay. -/
theorem Sm.step {w1 : World} {B : Nat → Prop} {M : Nat → Option Blk} {σ : Nat → Slot} {w w' : World} (h : Sm w1 B M σ w) (hb : Below w.heap.size w w') :
    Sm w1 B M σ w' ∧ Later (cx B M σ w) (cx B M σ w') := by
  have L : Later (cx B M σ w) (cx B M σ w') := ⟨hb.size, fun r hr _ => hb.block r hr, fun _ _ h => h, fun _ _ h => .inl h⟩
  have hM : ∀ m ka va kt vt (lf : List (T kt × T vt)), M m = some (.map ka va kt vt lf true) → (σ m).blk < w.heap.size := fun m ka va kt vt lf e => (h.base m _ e rfl).2
  refine ⟨⟨h.below.trans ⟨hb.os, hb.tape, hb.output, hb.size, fun i hi => hb.block i (Nat.lt_of_lt_of_le hi h.below.size)⟩, h.bB, fun k blk hk hr => ?_, h.inj, fun k blk hk => ?_⟩, L⟩
  · have := h.base k blk hk hr
    exact ⟨this.1, Nat.lt_of_lt_of_le this.2 hb.size⟩
  · exact (h.blk k blk hk).later L (fun hr => hb.block _ (h.base k blk hk hr).2) rfl (fun _ => .inr rfl)
      (fun m ka va kt vt l cur _ lf hm => ⟨.inl hm, hb.block _ (hM m ka va kt vt lf hm)⟩)

/-- Fewer blocks are known. -/
theorem Sm.restrict {w1 : World} {B : Nat → Prop} {M M' : Nat → Option Blk} {σ : Nat → Slot} {w : World} (h : Sm w1 B M σ w) (hM : ∀ k blk, M' k = some blk → M k = some blk) :
    Sm w1 B M' σ w ∧ Later (cx B M σ w) (cx B M' σ w) := by
  have L : Later (cx B M σ w) (cx B M' σ w) := ⟨Nat.le_refl _, fun _ _ _ => rfl, fun r _ ⟨k, blk, e, hr, hs⟩ => ⟨k, blk, hM _ _ e, hr, hs⟩, fun _ _ h => .inl h⟩
  refine ⟨⟨h.below, h.bB, fun k blk hk => h.base k blk (hM _ _ hk), fun k k' blk blk' hk hk' => h.inj k k' blk blk' (hM _ _ hk) (hM _ _ hk'), fun k blk hk => ?_⟩, L⟩
  refine (h.blk k blk (hM _ _ hk)).later L (fun _ => rfl) rfl (fun _ => .inr rfl) (fun m ka va kt vt l cur _ lf hm => ⟨?_, rfl⟩)
  by_cases hx : M' m = some (.map ka va kt vt lf true)
  · exact .inl hx
  · refine .inr ?_
    rintro ⟨k2, blk2, e, hr, hs⟩
    have hk2 : k2 = m := h.inj k2 m blk2 _ (hM _ _ e) hm hr rfl hs
    subst hk2
    rw [hM _ _ e] at hm
    rw [hm] at e
    exact hx e

theorem frozen_none {w : World} {b o : Nat} {c : Array Value} {e : TypeId} (h : w.heap[b]? = some (.cells c e (0, 0))) : w.frozen? ⟨b, o, none⟩ = false := by
  simp [World.frozen?, h]
theorem cell_of {w : World} {b o : Nat} {c : Array Value} {e : TypeId} {f : Nat × Nat} (h : w.heap[b]? = some (.cells c e f)) : w.cell? ⟨b, o, none⟩ = c[o]? := by
  simp [World.cell?, h]

/-- A new block, named d. -/
theorem Sm.new {w1 : World} {B : Nat → Prop} {M : Nat → Option Blk} {σ : Nat → Slot} {w w' : World} (h : Sm w1 B M σ w) (hb : Below w.heap.size w w') (d : Nat) (s : Slot) (blk : Blk)
    (hs : blk.real = true → w.heap.size ≤ s.blk ∧ s.blk < w'.heap.size) (hfree : ∀ k b, M k = some b → k ≠ d → menB d b = false)
    (hnew : Later (cx B M σ w) (cx B (up M d (some blk)) (up σ d s) w') →
      BlkR (up M d (some blk)) (cx B (up M d (some blk)) (up σ d s) w') d blk) :
    Sm w1 B (up M d (some blk)) (up σ d s) w' ∧
      Later (cx B M σ w) (cx B (up M d (some blk)) (up σ d s) w') := by
  have L : Later (cx B M σ w) (cx B (up M d (some blk)) (up σ d s) w') := by
    refine ⟨hb.size, fun r hr _ => hb.block r hr, ?_, fun _ _ h => .inl h⟩
    rintro r hr ⟨k, blk2, e, hreal, hsl⟩
    by_cases hk : k = d
    · subst hk
      simp only [up_same, Option.some.injEq] at e hsl
      subst e
      have := (hs hreal).1
      simp only [cx] at hr
      omega
    · simp only [up_ne _ _ hk] at e hsl
      exact ⟨k, blk2, e, hreal, hsl⟩
  refine ⟨⟨h.below.trans ⟨hb.os, hb.tape, hb.output, hb.size, fun i hi => hb.block i (Nat.lt_of_lt_of_le hi h.below.size)⟩, h.bB, ?_, ?_, ?_⟩, L⟩
  · intro k blk2 e hr
    by_cases hk : k = d
    · subst hk
      simp only [up_same, Option.some.injEq] at e ⊢
      subst e
      have := hs hr
      exact ⟨Nat.le_trans h.below.size this.1, this.2⟩
    · simp only [up_ne _ _ hk] at e ⊢
      have := h.base k blk2 e hr
      exact ⟨this.1, Nat.lt_of_lt_of_le this.2 hb.size⟩
  · intro k k' b b' e e' hr hr' hs'
    by_cases hk : k = d <;> by_cases hk' : k' = d
    · rw [hk, hk']
    · exfalso
      subst hk
      simp only [up_same, up_ne _ _ hk', Option.some.injEq] at e e' hs'
      subst e
      have a := hs hr
      have b2 := h.base k' b' e' hr'
      omega
    · exfalso
      subst hk'
      simp only [up_same, up_ne _ _ hk, Option.some.injEq] at e e' hs'
      subst e'
      have a := hs hr'
      have b2 := h.base k b e hr
      omega
    · simp only [up_ne _ _ hk, up_ne _ _ hk'] at e e' hs'
      exact h.inj k k' b b' e e' hr hr' hs'
  · intro k blk2 e
    by_cases hk : k = d
    · subst hk
      simp only [up_same, Option.some.injEq] at e
      subst e
      exact hnew L
    · simp only [up_ne _ _ hk] at e
      refine (h.blk k blk2 e).later L (fun hr => hb.block _ (h.base k blk2 e hr).2) (by simp [cx, up_ne _ _ hk]) (fun k2 => ?_) (fun m ka va kt vt l cur hbk lf hm => ?_)
      · by_cases h2 : k2 = d
        · subst h2; exact .inl (hfree k blk2 e hk)
        · exact .inr (by simp [cx, up_ne _ _ h2])
      · have hmd : m ≠ d := by
          intro hmd
          subst hmd
          have := hfree k blk2 e hk
          subst hbk
          simp [menB] at this
        refine ⟨.inl (by rw [up_ne _ _ hmd]; exact hm), hb.block _ (h.base m _ hm rfl).2⟩
end Go.Ge
