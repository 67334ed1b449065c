/- Reading and writing cells: the model's steps, and a frame's block that is written. -/
import Derived.Test.YtneeobmefioenaaGeOne
namespace Go.Ge
open Go Go.RowKit

/-- Not a value of several cells. -/
def plain : Value → Prop
  | .agg _ => False
  | .tuple _ => False
  | _ => True
theorem VR.plain {c : Cx} {v : V} {v' : Value} (h : VR c v v') (hs : scal v = true) : plain v' := by
  cases h <;> first | trivial | (simp [scal] at hs)
theorem VRs.plain {c : Cx} : ∀ {l : List V} {l' : List Value}, VRs c l l' → l.all scal = true → ∀ v, v ∈ l' → Ge.plain v
  | _, _, .nil, _, v, h => by simp at h
  | _, _, .cons a b, hs, v, h => by
    simp only [List.all_cons, Bool.and_eq_true] at hs
    rcases List.mem_cons.1 h with h | h
    · subst h; exact a.plain hs.1
    · exact b.plain hs.2 v h
theorem run_store {P : Program} {w : World} {ad : Addr} {v u : Value} (hp : plain v) (hc : w.cell? ad = some u) (hf : w.frozen? ad = false) : (store ad v).run P w = .ok () (w.setCell ad v) := by
  unfold store
  cases v <;> first | (exact hp.elim) | (simp [Sem.run, hc, hf])
def storeL (w : World) (b : Nat) : Nat → List Value → World
  | _, [] => w
  | o, c :: cs => storeL (w.setCell ⟨b, o, none⟩ c) b (o + 1) cs
theorem setCell_heap {w : World} {b o : Nat} {arr : Array Value} {e : TypeId} {fr : Nat × Nat} {v : Value} (h : w.heap[b]? = some (.cells arr e fr)) :
    (w.setCell ⟨b, o, none⟩ v).heap[b]? = some (.cells (arr.setIfInBounds o v) e fr) := by
  simp [World.setCell, Array.getElem?_modify, h]
theorem storeL_heap {b : Nat} {e : TypeId} : ∀ {cs m q p : List Value} {w : World}, w.heap[b]? = some (.cells (p ++ m ++ q).toArray e (0, 0)) → m.length = cs.length →
    (storeL w b p.length cs).heap[b]? = some (.cells (p ++ cs ++ q).toArray e (0, 0))
  | [], m, q, p, w, h, hl => by
    have : m = [] := List.eq_nil_of_length_eq_zero (by simpa using hl)
    subst this
    simpa [storeL] using h
  | c :: cs, [], q, p, w, h, hl => by simp at hl
  | c :: cs, x :: m, q, p, w, h, hl => by
    have h1 := setCell_heap (o := p.length) (v := c) h
    have e1 : ((p ++ (x :: m) ++ q).toArray).setIfInBounds p.length c = ((p ++ [c]) ++ m ++ q).toArray := by
      simp
    rw [e1] at h1
    have ih := storeL_heap (cs := cs) (m := m) (q := q) (p := p ++ [c]) h1 (by simpa using hl)
    simp only [List.length_append, List.length_cons, List.length_nil, Nat.zero_add] at ih
    simp only [storeL]
    rw [ih]
    simp
theorem storeL_other {b r : Nat} (hr : r ≠ b) : ∀ {cs : List Value} {o : Nat} {w : World}, (storeL w b o cs).heap[r]? = w.heap[r]?
  | [], _, _ => rfl
  | c :: cs, o, w => by
    simp only [storeL]
    rw [storeL_other hr]
    exact Below.heap_setCell _ _ _ _ hr
theorem storeL_rest {b : Nat} : ∀ {cs : List Value} {o : Nat} {w : World}, (storeL w b o cs).heap.size = w.heap.size ∧ (storeL w b o cs).os = w.os ∧ (storeL w b o cs).tape = w.tape ∧ ((storeL w b o cs).output = w.output ∧ w.drawn ≤ (storeL w b o cs).drawn)
  | [], _, _ => ⟨rfl, rfl, rfl, rfl, Nat.le_refl _⟩
  | c :: cs, o, w => by
    simp only [storeL]
    obtain ⟨h1, h2, h3, h4⟩ := storeL_rest (b := b) (cs := cs) (o := o + 1) (w := w.setCell ⟨b, o, none⟩ c)
    exact ⟨by rw [h1]; simp, h2, h3, h4⟩
theorem run_storeCells {P : Program} {b o : Nat} : ∀ {cs : List Value} {i : Nat} {w : World} {arr : Array Value} {e : TypeId}, (∀ v, v ∈ cs → plain v) → w.heap[b]? = some (.cells arr e (0, 0)) → o + i + cs.length ≤ arr.size →
    (storeCells ⟨b, o, none⟩ cs i).run P w = .ok () (storeL w b (o + i) cs)
  | [], i, w, arr, e, _, _, _ => by simp [storeCells, storeL]
  | c :: cs, i, w, arr, e, hp, h, hl => by
    simp only [List.length_cons] at hl
    have h0 : w.cell? ⟨b, o + i, none⟩ = some arr[o + i] := by rw [cell_of h]; simp
    have hf : w.frozen? ⟨b, o + i, none⟩ = false := frozen_none h
    have h1 := setCell_heap (o := o + i) (v := c) h
    have ih := run_storeCells (P := P) (o := o) (cs := cs) (i := i + 1) (fun v hv => hp v (by simp [hv])) h1 (by simp; omega)
    simp only [storeCells, Sem.run_bind, add_at, run_store (P := P) (hp c (by simp)) h0 hf, Result.andThen, storeL]
    exact ih

/-- One own block written. -/
theorem Sm.set {w1 : World} {B : Nat → Prop} {M : Nat → Option Blk} {σ : Nat → Slot} {w w' : World} (h : Sm w1 B M σ w) {b : Nat} {blk0 blk : Blk} (h0 : M b = some blk0) (hr0 : blk0.real = true) (hr : blk.real = true)
    (hsz : w'.heap.size = w.heap.size) (hos : w'.os = w.os) (htape : w'.tape = w.tape) (hout : w'.output = w.output ∧ w.drawn ≤ w'.drawn) (hoth : ∀ r, r ≠ (σ b).blk → w'.heap[r]? = w.heap[r]?)
    (hlk : ∀ ka va kt vt lf, blk0 = .map ka va kt vt lf true → blk = .map ka va kt vt lf true ∧ w'.heap[(σ b).blk]? = w.heap[(σ b).blk]?)
    (hnew : Later (cx B M σ w) (cx B (up M b (some blk)) σ w') → BlkR (up M b (some blk)) (cx B (up M b (some blk)) σ w') b blk) :
    Sm w1 B (up M b (some blk)) σ w' ∧ Later (cx B M σ w) (cx B (up M b (some blk)) σ w') := by
  have hbase := h.base b blk0 h0 hr0
  have hown : ∀ r, own (up M b (some blk)) σ r → own M σ r := by
    rintro r ⟨k, blk2, e, h1, h2⟩
    by_cases hk : k = b
    · subst hk; exact ⟨k, blk0, h0, hr0, h2⟩
    · rw [up_ne _ _ hk] at e; exact ⟨k, blk2, e, h1, h2⟩
  have L : Later (cx B M σ w) (cx B (up M b (some blk)) σ w') := by
    refine ⟨by simp only [cx]; omega, fun r _ hno => hoth r fun e => hno ⟨b, blk0, h0, hr0, e.symm⟩, fun r _ ho => hown r ho, fun _ _ hB => .inl hB⟩
  refine ⟨⟨h.below.trans ⟨hos, htape, hout, by omega, fun i hi => hoth i (by omega)⟩, h.bB, ?_, ?_, ?_⟩, L⟩
  · intro k blk2 e hr2
    by_cases hk : k = b
    · subst hk; exact ⟨hbase.1, by omega⟩
    · rw [up_ne _ _ hk] at e
      have := h.base k blk2 e hr2
      exact ⟨this.1, by omega⟩
  · intro k k' b1 b2 e e' h1 h2 hs
    by_cases hk : k = b <;> by_cases hk' : k' = b
    · rw [hk, hk']
    · subst hk
      rw [up_ne _ _ hk'] at e'
      exact h.inj k k' blk0 b2 h0 e' hr0 h2 hs
    · subst hk'
      rw [up_ne _ _ hk] at e
      exact h.inj k k' b1 blk0 e h0 h1 hr0 hs
    · rw [up_ne _ _ hk] at e
      rw [up_ne _ _ hk'] at e'
      exact h.inj k k' b1 b2 e e' h1 h2 hs
  · intro k blk2 e
    by_cases hk : k = b
    · subst hk
      simp only [up_same, Option.some.injEq] at e
      subst e
      exact hnew L
    · rw [up_ne _ _ hk] at e
      have hne : blk2.real = true → (σ k).blk ≠ (σ b).blk := fun hr2 e2 => hk (h.inj k b blk2 blk0 e h0 hr2 hr0 e2)
      refine (h.blk k blk2 e).later L (fun hr2 => hoth _ (hne hr2)) rfl (fun _ => .inr rfl) (fun m ka va kt vt l cur hbk lf hm => ?_)
      by_cases hmb : m = b
      · subst hmb
        rw [h0] at hm
        simp only [Option.some.injEq] at hm
        obtain ⟨h1, h2⟩ := hlk ka va kt vt lf hm
        exact ⟨.inl (by rw [up_same, h1]), h2⟩
      · have : (σ m).blk ≠ (σ b).blk := fun e2 => hmb (h.inj m b _ blk0 hm h0 rfl hr0 e2)
        exact ⟨.inl (by rw [up_ne _ _ hmb]; exact hm), hoth _ this⟩

theorem flatMap_at {α β : Type} (f : α → List β) {n : Nat} (hn : ∀ x, (f x).length = n) : ∀ {l : List α} {i : Nat} {x : α}, l[i]? = some x → ∃ p q, l.flatMap f = p ++ f x ++ q ∧ p.length = i * n ∧ p = (l.take i).flatMap f ∧ q = (l.drop (i + 1)).flatMap f
  | [], i, x, h => by simp at h
  | y :: r, 0, x, h => by simp at h; subst h; exact ⟨[], r.flatMap f, by simp, by simp, by simp, by simp⟩
  | y :: r, i + 1, x, h => by
    simp at h
    obtain ⟨p, q, h1, h2, h3, h4⟩ := flatMap_at f hn h
    exact ⟨f y ++ p, q, by simp [h1], by simp [h2, hn, Nat.add_mul]; omega, by simp [h3], by simp [h4]⟩
theorem flatMap_set {α β : Type} (f : α → List β) : ∀ {l : List α} {i : Nat} {x : α} (y : α), l[i]? = some x → (l.set i y).flatMap f = (l.take i).flatMap f ++ f y ++ (l.drop (i + 1)).flatMap f
  | [], i, x, y, h => by simp at h
  | z :: r, 0, x, y, h => by simp
  | z :: r, i + 1, x, y, h => by
    simp at h
    have := flatMap_set f y h
    simp [this]

section
variable {R : Type} {r : R} {B : Nat → Prop} {M : Nat → Option Blk} {σ : Nat → Slot} {w1 w : World}
/-- What a load reads. -/
theorem ldK_spec (sm : Sm w1 B M σ w) {p : V} {p' : Value} (hp : VR (cx B M σ w) p p') {n : Nat} {agg : Bool} {kk : V → Option R} (h : ldK M p n agg kk = some r) :
    ∃ v b o m m', kk v = some r ∧ p' = .pointer (some ⟨b, o, none⟩) ∧ V.of agg m = some v ∧ m.all scal = true ∧ VRs (cx B M σ w) m m' ∧ Cells w b o m' ∧ m'.length = n := by
  cases p <;> simp only [ldK] at h <;> (try (exact absurd h (by simp)))
  case pc ds off bor =>
    split at h
    · rename_i cs hcs
      split at h
      · rename_i v hv
        obtain ⟨blk, o, cs', rfl, hb, ho, hB, hs, hc, hvs⟩ := hp.pc_inv
        obtain ⟨hl, p1, m', q1, rfl, hp1, hm', hm, hsc⟩ := hvs.cut hcs
        exact ⟨v, blk, o + off, cs, m', h, rfl, hv, hsc hs, hm, by rw [← hp1]; exact hc.mid, hm'⟩
      · simp at h
    · simp at h
  case pb kb off =>
    split at h
    · rename_i ds hM
      split at h
      · rename_i cs hcs
        split at h
        · rename_i v hv
          obtain ⟨hs, cs', e, he, hvs⟩ := sm.blk kb _ hM
          obtain ⟨hl, p1, m', q1, rfl, hp1, hm', hm, hsc⟩ := hvs.cut hcs
          refine ⟨v, (σ kb).blk, off, cs, m', h, hp.pb_inv, hv, hsc hs, hm, ?_, hm'⟩
          have := (all_cells he).mid
          simpa [cx, hp1] using this
        · simp at h
      · simp at h
    · simp at h
  case pr kb idx sz off =>
    split at h
    · rename_i t l hM
      split at h
      · rename_i x hx
        simp only [cond_eq_ite, Nat.beq_eq] at h
        split at h
        · rename_i hsz
          split at h
          · rename_i cs hcs
            split at h
            · rename_i v hv
              have hblk := sm.blk kb _ hM
              cases l with
              | nil => simp at hx
              | cons y ys =>
                obtain ⟨cs', rest, e, cap, he, hvs, hsv, hcap, hszz⟩ := hblk
                obtain ⟨pp, qq, hfl, hpl, _, _⟩ := flatMap_at (unpack false t) (length_unpack false t) hx
                rw [hfl] at hvs
                obtain ⟨a1, q', rfl, ha1, hq'⟩ := VRs.split hvs
                obtain ⟨p', u', rfl, hp', hu'⟩ := VRs.split ha1
                obtain ⟨hl, p1, m', q1, rfl, hp1, hm', hm, hsc⟩ := hu'.cut hcs
                refine ⟨v, (σ kb).blk, idx * sz + off, cs, m', h, hp.pr_inv, hv, hsc (scal_unpack _ _ _), hm, ?_, hm'⟩
                have h1 := (take_cells he).mid (p := p') (q := q')
                have h2 := h1.mid
                rw [← hp'.length, hpl, hp1, ← hsz] at h2
                simpa [cx] using h2
            · simp at h
          · simp at h
        · simp at h
      · simp at h
    · simp at h
end
end Go.Ge
