/- Values as they are handed on (snap), taken over (adopt), and blocks that are written no more (frz). -/
import Derived.Test.YtneeobmefioenaaGeBlk
namespace Go.Ge
open Go Go.RowKit

theorem mapO_spec {α β : Type} {f : α → Option β} : ∀ {l : List α} {m : List β}, mapO f l = some m → l.length = m.length ∧ ∀ (j : Nat) (x : α), l[j]? = some x → ∃ y, f x = some y ∧ m[j]? = some y
  | [], m, h => by simp [mapO] at h; subst h; simp
  | x :: r, m, h => by
    simp only [mapO] at h
    split at h
    · rename_i y hy
      split at h
      · rename_i ys hys
        simp only [Option.some.injEq] at h
        subst h
        obtain ⟨hl, hg⟩ := mapO_spec hys
        refine ⟨by simp [hl], fun j z hz => ?_⟩
        cases j with
        | zero => simp at hz; subst hz; exact ⟨y, hy, rfl⟩
        | succ j => simp at hz; obtain ⟨u, hu, hm⟩ := hg j z hz; exact ⟨u, hu, by simpa using hm⟩
      · simp at h
    · simp at h
theorem mapO_cons {α β : Type} {f : α → Option β} {x : α} {r : List α} {m : List β} (h : mapO f (x :: r) = some m) : ∃ y ys, f x = some y ∧ mapO f r = some ys ∧ m = y :: ys := by
  simp only [mapO] at h
  split at h
  · rename_i y hy
    split at h
    · rename_i ys hys
      simp only [Option.some.injEq] at h
      exact ⟨y, ys, hy, hys, h.symm⟩
    · simp at h
  · simp at h
theorem mapO_all {α β : Type} {f : α → Option β} {p : β → Bool} : ∀ {l : List α} {m : List β}, mapO f l = some m → (∀ x y, x ∈ l → f x = some y → p y = true) → m.all p = true
  | [], m, h, _ => by simp [mapO] at h; subst h; rfl
  | x :: r, m, h, hp => by
    obtain ⟨y, ys, hy, hys, rfl⟩ := mapO_cons h
    simp only [List.all_cons, Bool.and_eq_true]
    exact ⟨hp x y (by simp) hy, mapO_all hys fun a b ha => hp a b (by simp [ha])⟩
theorem mapO_VRs {c c' : Cx} {f : V → Option V} : ∀ {l m : List V} {cs : List Value}, mapO f l = some m → VRs c l cs → (∀ x y x', x ∈ l → f x = some y → VR c x x' → VR c' y x') → VRs c' m cs
  | [], m, cs, h, hv, _ => by simp [mapO] at h; subst h; cases hv; exact .nil
  | x :: r, m, cs, h, hv, hf => by
    obtain ⟨y, ys, hy, hys, rfl⟩ := mapO_cons h
    cases hv with
    | cons a b => exact .cons (hf x y _ (by simp) hy a) (mapO_VRs hys b fun a2 b2 c2 ha => hf a2 b2 c2 (by simp [ha]))

theorem snap_scal {bor : Bool} {M : Nat → Option Blk} : ∀ {n : Nat} {v v2 : V}, snap bor M n v = some v2 → scal v = true → scal v2 = true := by
  intro n v v2 h hs
  cases n with
  | zero => simp [snap] at h
  | succ n =>
    cases v <;> simp only [snap, cond_eq_ite] at h <;> (try simp [scal] at hs) <;> (repeat' split at h) <;>
      first
        | (simp only [Option.some.injEq] at h; subst h; rfl)
        | (simp at h)
theorem lend_flat {c : Cx} {t : Ty} (ih : ∀ (x : T t) cs, VRs c (unpack false t x) cs → VRs c (unpack true t x) cs) : ∀ (l : List (T t)) (cs : List Value), VRs c (l.flatMap (unpack false t)) cs → VRs c (l.flatMap (unpack true t)) cs
  | [], cs, h => by simpa using h
  | x :: r, cs, h => by
    simp only [List.flatMap_cons] at h ⊢
    obtain ⟨a, b, rfl, h1, h2⟩ := VRs.split h
    exact (ih x a h1).append (lend_flat ih r b h2)
theorem lend_unpack {c : Cx} : ∀ (t : Ty) (x : T t) (cs : List Value), VRs c (unpack false t x) cs → VRs c (unpack true t x) cs
  | .bool, _, _, h => h
  | .int _, _, _, h => h
  | .str, _, _, h => h
  | .unit, _, _, h => h
  | .prod a b, x, cs, h => by
    simp only [unpack] at h ⊢
    obtain ⟨p, q, rfl, h1, h2⟩ := VRs.split h
    exact (lend_unpack a _ _ h1).append (lend_unpack b _ _ h2)
  | .slice t, x, cs, h => by
    simp only [unpack] at h ⊢
    cases h with
    | cons h1 h2 =>
      refine .cons ?_ h2
      cases h1 with
      | slE _ _ _ a cap hx => exact .slE t true false a cap hx
      | slN _ _ _ _ blk off cap cs hb ho hB hcap hx hc hs => exact .slN t x true false blk off cap cs hb ho (by simp) hcap hx hc (lend_flat (lend_unpack t) x cs hs)
theorem take_cells {w : World} {b : Nat} {cs' rest : List Value} {e : TypeId} {f : Nat × Nat} (h : w.heap[b]? = some (.cells (cs' ++ rest).toArray e f)) : Cells w b 0 cs' := by
  intro j v hj
  rw [cell_of h]
  obtain ⟨hlt, hv⟩ := List.getElem?_eq_some_iff.1 hj
  simp [List.getElem?_append, hlt, hv]
theorem all_cells {w : World} {b : Nat} {cs' : List Value} {e : TypeId} {f : Nat × Nat} (h : w.heap[b]? = some (.cells cs'.toArray e f)) : Cells w b 0 cs' :=
  take_cells (rest := []) (by simpa using h)
theorem lt_of_heap {w : World} {b : Nat} {o : Obj} (h : w.heap[b]? = some o) : b < w.heap.size := (Array.getElem?_eq_some_iff.1 h).1

/-- Handing on. -/
theorem snap_sound {bor : Bool} {M : Nat → Option Blk} {c c2 : Cx} (hblk : ∀ k blk, M k = some blk → BlkR M c k blk) (hbase : ∀ k blk, M k = some blk → blk.real = true → ¬ c.B (c.σ k).blk)
    (hw : c2.w = c.w) (ho : ∀ r, ¬ c2.own r) (hB : ∀ r, c2.B r → c.B r ∨ (bor = true ∧ c.own r)) :
    ∀ (n : Nat) (v v2 : V) (v' : Value), snap bor M n v = some v2 → VR c v v' → VR c2 v2 v' := by
  have L : Later c c2 := ⟨by rw [hw]; exact Nat.le_refl _, fun r _ _ => by rw [hw], fun r _ h => (ho r h).elim, fun r _ h => (hB r h).imp id (·.2)⟩
  intro n
  induction n with
  | zero => intro v v2 v' h; simp [snap] at h
  | succ n ih =>
    intro v v2 v' h hv
    have lists : ∀ {cs m : List V} {cs' : List Value}, mapO (snap bor M n) cs = some m → VRs c cs cs' → VRs c2 m cs' := fun h1 h2 => mapO_VRs h1 h2 fun x y x' _ e r => ih x y x' e r
    have scals : ∀ {cs m : List V}, mapO (snap bor M n) cs = some m → cs.all scal = true → m.all scal = true := fun h1 h2 => mapO_all h1 fun x y hx e => snap_scal e (List.all_eq_true.1 h2 x hx)
    cases hv with
    | b x => simp only [snap, Option.some.injEq] at h; subst h; exact .b x
    | i k m => simp only [snap, Option.some.injEq] at h; subst h; exact .i k m
    | s x => simp only [snap, Option.some.injEq] at h; subst h; exact .s x
    | slE t b ex a cap hx =>
      simp only [snap, cond_eq_ite] at h
      split at h
      · simp at h
      · simp only [Option.some.injEq] at h; subst h; exact .slE t b ex a cap hx
    | slN t l b ex blk off cap cs hb ho' hB' hcap hx hc hs =>
      simp only [snap, cond_eq_ite] at h
      split at h
      · simp at h
      · simp only [Option.some.injEq] at h; subst h
        exact (VR.slN t l b ex blk off cap cs hb ho' hB' hcap hx hc hs).later L fun k => .inl ⟨1, rfl⟩
    | agg cs cs' hs hv =>
      simp only [snap] at h
      split at h
      · rename_i m hm
        simp only [Option.some.injEq] at h; subst h
        exact .agg m cs' (scals hm hs) (lists hm hv)
      · simp at h
    | tup cs cs' hv =>
      simp only [snap] at h
      split at h
      · rename_i m hm
        simp only [Option.some.injEq] at h; subst h
        exact .tup m cs' (lists hm hv)
      · simp at h
    | pc cs off b blk o cs' hb ho' hB' hs hc hv =>
      simp only [snap, cond_eq_ite] at h
      split at h
      · simp at h
      · split at h
        · rename_i m hm
          simp only [Option.some.injEq] at h; subst h
          refine .pc m off (b || bor) blk o cs' (by rw [hw]; exact hb) (ho _) (fun e h2 => ?_) (scals hm hs) (hc.later L hb ho') (lists hm hv)
          simp only [Bool.or_eq_false_iff] at e
          rcases hB _ h2 with h3 | ⟨h3, _⟩
          · exact hB' e.1 h3
          · rw [e.2] at h3; exact absurd h3 (by simp)
        · simp at h
    | pz => simp only [snap, Option.some.injEq] at h; subst h; exact .pz
    | pb k off =>
      simp only [snap] at h
      split at h
      · rename_i cs hk
        split at h
        · rename_i m hm
          simp only [Option.some.injEq] at h; subst h
          obtain ⟨hs, cs', e, he, hv⟩ := hblk k _ hk
          have := VR.pc (c := c2) m off bor (c.σ k).blk 0 cs' (by rw [hw]; exact lt_of_heap he) (ho _) (fun e2 h2 => by
            rcases hB _ h2 with h3 | ⟨h3, _⟩
            · exact hbase k _ hk rfl h3
            · rw [e2] at h3; exact absurd h3 (by simp)) (scals hm hs) (by rw [hw]; exact all_cells he) (lists hm hv)
          simpa using this
        · simp at h
      · simp at h
    | pr k idx sz off => simp [snap] at h
    | bs k =>
      simp only [snap] at h
      split at h
      · rename_i t l hk
        simp only [Option.some.injEq] at h; subst h
        have hr := hblk k _ hk
        cases l with
        | nil => obtain ⟨a, ha⟩ := hr; rw [ha]; exact .slE t bor false a 0 (by simp)
        | cons x r =>
          obtain ⟨cs', rest, e, cap, he, hv, hsv, hcap, hsz⟩ := hr
          rw [hsv]
          have hflat : VRs c2 ((x :: r).flatMap (unpack bor t)) cs' := by
            cases bor with
            | false => exact rowVals_later L hv
            | true => exact lend_flat (lend_unpack t) _ _ (rowVals_later L hv)
          exact .slN t (x :: r) bor false (c.σ k).blk 0 cap cs' (by rw [hw]; exact lt_of_heap he) (ho _) (fun e2 h2 => by
            rcases hB _ h2 with h3 | ⟨h3, _⟩
            · exact hbase k _ hk rfl h3
            · rw [e2] at h3; exact absurd h3 (by simp)) hcap (by simp) (by rw [hw]; exact take_cells he) hflat
      · simp at h
    | fn f cs cs' hv =>
      simp only [snap] at h
      split at h
      · rename_i m hm
        simp only [Option.some.injEq] at h; subst h
        exact .fn f m cs' (lists hm hv)
      · simp at h
    | fz => simp only [snap, Option.some.injEq] at h; subst h; exact .fz
    | mp k => simp [snap] at h
    | mz => simp only [snap, Option.some.injEq] at h; subst h; exact .mz
    | it k => simp [snap] at h
    | nif => simp only [snap, Option.some.injEq] at h; subst h; exact .nif
    | yf q => simp [snap] at h
end Go.Ge
