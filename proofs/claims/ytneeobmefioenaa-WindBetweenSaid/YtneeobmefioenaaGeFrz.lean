/- A result that is taken over; blocks that are written no more. -/
import Derived.Test.YtneeobmefioenaaGeSnap
namespace Go.Ge
open Go Go.RowKit

/-- Nothing lent, nothing of one's own. -/
def pureV : Nat → V → Bool
  | 0, _ => false
  | n + 1, v => match v with
    | .sl _ _ b _ => !b
    | .pc cs _ b => !b && cs.all (pureV n)
    | .fn _ cs => cs.all (pureV n)
    | .agg cs => cs.all (pureV n)
    | .tup cs => cs.all (pureV n)
    | .pb _ _ => false
    | .pr _ _ _ _ => false
    | .bs _ => false
    | .mp _ => false
    | .it _ => false
    | .yf _ => false
    | _ => true
theorem snap_pure {M : Nat → Option Blk} : ∀ (n : Nat) (v v2 : V), snap false M n v = some v2 → pureV n v2 = true := by
  intro n
  induction n with
  | zero => intro v v2 h; simp [snap] at h
  | succ n ih =>
    intro v v2 h
    have lists : ∀ {cs m : List V}, mapO (snap false M n) cs = some m → m.all (pureV n) = true := fun h1 => mapO_all h1 fun x y _ e => ih x y e
    cases v <;> simp only [snap, cond_eq_ite] at h <;> (repeat' split at h) <;>
      first
        | (simp only [Option.some.injEq] at h; subst h; first | rfl | (simp_all [pureV] <;> exact lists (by assumption)))
        | (simp at h)
theorem pure_unpack (n : Nat) : ∀ (t : Ty) (y : T t) (x : V), x ∈ unpack false t y → pureV (n + 1) x = true
  | .bool, y, x, h => by simp [unpack] at h; subst h; rfl
  | .int _, y, x, h => by simp [unpack] at h; subst h; rfl
  | .str, y, x, h => by simp [unpack] at h; subst h; rfl
  | .unit, y, x, h => by simp [unpack] at h
  | .prod a b, y, x, h => by
    simp [unpack] at h
    rcases h with h | h
    · exact pure_unpack n a _ x h
    · exact pure_unpack n b _ x h
  | .slice t, y, x, h => by simp [unpack] at h; subst h; rfl

/-- From a callee's view to the caller's. -/
structure Back (c c' : Cx) : Prop where
  w : c'.w = c.w
  own : ∀ r, r < c.w.heap.size → c'.own r → c.B r
  B : ∀ r, r < c.w.heap.size → c'.B r → c.B r
mutual
theorem VR.adopt {c c' : Cx} (L : Back c c') : ∀ {v : V} {v' : Value}, VR c v v' → (∃ n, pureV n v = true) → VR c' v v'
  | _, _, .b x, _ => .b x
  | _, _, .i k n, _ => .i k n
  | _, _, .s x, _ => .s x
  | _, _, .slE t bor ex a cap hx, _ => .slE t bor ex a cap hx
  | _, _, .slN t l bor ex blk off cap cs hb ho hB hcap hx hc hs, hp => by
    have hbor : bor = false := by obtain ⟨n, hn⟩ := hp; cases n <;> simp [pureV] at hn; exact hn
    exact .slN t l bor ex blk off cap cs (by rw [L.w]; exact hb) (fun h => hB hbor (L.own _ hb h)) (fun _ h => hB hbor (L.B _ hb h)) hcap hx (by rw [L.w]; exact hc)
      (VRs.adopt L hs fun x hx => by
        simp only [List.mem_flatMap, hbor] at hx
        obtain ⟨y, _, hy⟩ := hx
        exact ⟨1, pure_unpack 0 t y x hy⟩)
  | _, _, .agg cs cs' hs h, hp => .agg cs cs' hs (VRs.adopt L h fun x hx => by
      obtain ⟨n, hn⟩ := hp
      cases n with
      | zero => simp [pureV] at hn
      | succ n => simp only [pureV, List.all_eq_true] at hn; exact ⟨n, hn x hx⟩)
  | _, _, .tup cs cs' h, hp => .tup cs cs' (VRs.adopt L h fun x hx => by
      obtain ⟨n, hn⟩ := hp
      cases n with
      | zero => simp [pureV] at hn
      | succ n => simp only [pureV, List.all_eq_true] at hn; exact ⟨n, hn x hx⟩)
  | _, _, .pc cs off bor blk o cs' hb ho hB hs hc h, hp => by
    have hbor : bor = false := by obtain ⟨n, hn⟩ := hp; cases n <;> simp [pureV] at hn; exact hn.1
    exact .pc cs off bor blk o cs' (by rw [L.w]; exact hb) (fun h => hB hbor (L.own _ hb h)) (fun _ h => hB hbor (L.B _ hb h)) hs (by rw [L.w]; exact hc)
      (VRs.adopt L h fun x hx => by
        obtain ⟨n, hn⟩ := hp
        cases n with
        | zero => simp [pureV] at hn
        | succ n => simp only [pureV, List.all_eq_true, Bool.and_eq_true] at hn; exact ⟨n, hn.2 x hx⟩)
  | _, _, .pz, _ => .pz
  | _, _, .pb k off, hp => by obtain ⟨n, hn⟩ := hp; cases n <;> simp [pureV] at hn
  | _, _, .pr k idx sz off, hp => by obtain ⟨n, hn⟩ := hp; cases n <;> simp [pureV] at hn
  | _, _, .bs k, hp => by obtain ⟨n, hn⟩ := hp; cases n <;> simp [pureV] at hn
  | _, _, .fn f cs cs' h, hp => .fn f cs cs' (VRs.adopt L h fun x hx => by
      obtain ⟨n, hn⟩ := hp
      cases n with
      | zero => simp [pureV] at hn
      | succ n => simp only [pureV, List.all_eq_true] at hn; exact ⟨n, hn x hx⟩)
  | _, _, .fz, _ => .fz
  | _, _, .mp k, hp => by obtain ⟨n, hn⟩ := hp; cases n <;> simp [pureV] at hn
  | _, _, .mz, _ => .mz
  | _, _, .it k, hp => by obtain ⟨n, hn⟩ := hp; cases n <;> simp [pureV] at hn
  | _, _, .nif, _ => .nif
  | _, _, .yf q, hp => by obtain ⟨n, hn⟩ := hp; cases n <;> simp [pureV] at hn
theorem VRs.adopt {c c' : Cx} (L : Back c c') : ∀ {xs : List V} {xs' : List Value}, VRs c xs xs' → (∀ x, x ∈ xs → ∃ n, pureV n x = true) → VRs c' xs xs'
  | _, _, .nil, _ => .nil
  | _, _, .cons h hs, hm => .cons (VR.adopt L h (hm _ (by simp))) (VRs.adopt L hs fun x hx => hm x (by simp [hx]))
end
theorem pure_no_mention (k : Nat) : ∀ (n : Nat) (v : V), pureV n v = true → mentions k n v = false := by
  intro n
  induction n with
  | zero => intro v h; simp [pureV] at h
  | succ n ih =>
    intro v h
    have lists : ∀ {cs : List V}, cs.all (pureV n) = true → cs.any (mentions k n) = false := fun {cs} h1 => by
      rw [List.any_eq_false]
      intro x hx
      simp [ih x (List.all_eq_true.1 h1 x hx)]
    cases v <;> simp_all [pureV, mentions]

/-! ### Blocks that are written no more -/
theorem lk_del {α : Type} (k : Nat) : ∀ (l : List (Nat × α)) (x : Nat), lk x (del k l) = if x = k then none else lk x l
  | [], x => by simp [del, lk]
  | (u, v) :: r, x => by
    simp only [del, lk, cond_eq_ite, Nat.beq_eq]
    by_cases h : k = u
    · subst h
      simp only [if_true]
      rw [lk_del k r x]
      by_cases hx : x = k <;> simp [hx]
    · simp only [if_neg h, lk, cond_eq_ite, Nat.beq_eq]
      rw [lk_del k r x]
      by_cases hx : x = u
      · subst hx
        simp [Ne.symm h]
      · simp [hx]
theorem lk_put {α : Type} (k : Nat) (y : α) : ∀ (l : List (Nat × α)) (x : Nat), lk x (put k y l) = if x = k then some y else lk x l
  | [], x => by simp [put, lk, cond_eq_ite]
  | (u, v) :: r, x => by
    simp only [put, cond_eq_ite, Nat.beq_eq]
    by_cases h : k = u
    · subst h
      simp only [if_true, lk, cond_eq_ite, Nat.beq_eq]
      by_cases hx : x = k <;> simp [hx]
    · simp only [if_neg h, lk, cond_eq_ite, Nat.beq_eq]
      rw [lk_put k y r x]
      by_cases hx : x = u
      · subst hx
        simp [Ne.symm h]
      · simp [hx]
theorem lk_map {α β : Type} (f : Nat × α → Option (Nat × β)) (hf : ∀ p q, f p = some q → q.1 = p.1) : ∀ {l : List (Nat × α)} {m : List (Nat × β)}, mapO f l = some m → ∀ (x : Nat),
    (∀ v, lk x l = some v → ∃ u, f (x, v) = some (x, u) ∧ lk x m = some u) ∧ (lk x l = none → lk x m = none)
  | [], m, h, x => by simp [mapO] at h; subst h; simp [lk]
  | (u, y) :: r, m, h, x => by
    obtain ⟨q, qs, hq, hqs, rfl⟩ := mapO_cons h
    have e1 := hf _ _ hq
    obtain ⟨q1, q2⟩ := q
    simp only at e1
    subst e1
    have ih := lk_map f hf hqs x
    simp only [lk, cond_eq_ite, Nat.beq_eq]
    by_cases hx : x = q1
    · subst hx
      simp only [if_true]
      exact ⟨fun v hv => by simp at hv; subst hv; exact ⟨q2, hq, rfl⟩, fun h => by simp at h⟩
    · simp only [if_neg hx]
      exact ih
theorem lk_sel {α : Type} {ts : List Nat} {l : List (Nat × α)} : ∀ {x : Nat} {v : α}, lk x (sel ts l) = some v → lk x l = some v := by
  induction ts with
  | nil => intro x v h; simp [sel, lk] at h
  | cons t r ih =>
    intro x v h
    simp only [sel] at h
    split at h
    · rename_i y hy
      simp only [lk, cond_eq_ite, Nat.beq_eq] at h
      split at h
      · rename_i e; subst e; rw [hy]; exact h
      · exact ih h
    · exact ih h

theorem frzV_scal {k : Nat} {blk : Blk} : ∀ {n : Nat} {v v2 : V}, frzV k blk n v = some v2 → scal v = true → scal v2 = true := by
  intro n v v2 h hs
  cases n with
  | zero => simp [frzV] at h
  | succ n =>
    cases v <;> simp only [frzV, cond_eq_ite] at h <;> (try simp [scal] at hs) <;> (repeat' split at h) <;>
      first
        | (simp only [Option.some.injEq] at h; subst h; rfl)
        | (simp at h)
theorem frzV_sound {c c2 : Cx} {M : Nat → Option Blk} {k : Nat} {blk : Blk} (hk : M k = some blk) (hblk : BlkR M c k blk) (hbase : blk.real = true → ¬ c.B (c.σ k).blk) (L : Later c c2) (hσ : c2.σ = c.σ) (hw : c2.w = c.w)
    (hno : blk.real = true → ¬ c2.own (c.σ k).blk) (hB2 : ∀ r, c2.B r → c.B r) :
    ∀ (n : Nat) (v v2 : V) (v' : Value), frzV k blk n v = some v2 → VR c v v' → VR c2 v2 v' := by
  intro n
  induction n with
  | zero => intro v v2 v' h; simp [frzV] at h
  | succ n ih =>
    intro v v2 v' h hv
    have lists : ∀ {cs m : List V} {cs' : List Value}, mapO (frzV k blk n) cs = some m → VRs c cs cs' → VRs c2 m cs' := fun h1 h2 => mapO_VRs h1 h2 fun x y x' _ e r => ih x y x' e r
    have scals : ∀ {cs m : List V}, mapO (frzV k blk n) cs = some m → cs.all scal = true → m.all scal = true := fun h1 h2 => mapO_all h1 fun x y hx e => frzV_scal e (List.all_eq_true.1 h2 x hx)
    have same : ∀ {u u'}, VR c u u' → VR c2 u u' := fun hu => hu.later L fun k => .inr (by rw [hσ])
    cases hv with
    | b x => simp only [frzV, Option.some.injEq] at h; subst h; exact .b x
    | i k m => simp only [frzV, Option.some.injEq] at h; subst h; exact .i k m
    | s x => simp only [frzV, Option.some.injEq] at h; subst h; exact .s x
    | slE t b ex a cap hx => simp only [frzV, Option.some.injEq] at h; subst h; exact .slE t b ex a cap hx
    | slN t l b ex blk off cap cs hb ho' hB' hcap hx hc hs =>
      simp only [frzV, Option.some.injEq] at h; subst h
      exact same (VR.slN t l b ex blk off cap cs hb ho' hB' hcap hx hc hs)
    | agg cs cs' hs hv =>
      simp only [frzV] at h
      split at h
      · rename_i m hm
        simp only [Option.some.injEq] at h; subst h
        exact .agg m cs' (scals hm hs) (lists hm hv)
      · simp at h
    | tup cs cs' hv =>
      simp only [frzV] at h
      split at h
      · rename_i m hm
        simp only [Option.some.injEq] at h; subst h
        exact .tup m cs' (lists hm hv)
      · simp at h
    | pc cs off b blk o cs' hb ho' hB' hs hc hv =>
      simp only [frzV] at h
      split at h
      · rename_i m hm
        simp only [Option.some.injEq] at h; subst h
        exact .pc m off b blk o cs' (by rw [hw]; exact hb) (fun h => ho' (L.own _ hb h)) (fun e h2 => hB' e (hB2 _ h2)) (scals hm hs) (hc.later L hb ho') (lists hm hv)
      · simp at h
    | pz => simp only [frzV, Option.some.injEq] at h; subst h; exact .pz
    | pb k' off =>
      simp only [frzV, cond_eq_ite, Nat.beq_eq] at h
      split at h
      · rename_i e
        subst e
        split at h
        · rename_i cs
          simp only [Option.some.injEq] at h; subst h
          obtain ⟨hs, cs', e, he, hv⟩ := hblk
          have := VR.pc (c := c2) cs off (cs.any (borV 5)) (c.σ k).blk 0 cs' (by rw [hw]; exact lt_of_heap he) (hno rfl) (fun _ h2 => hbase rfl (hB2 _ h2)) hs (by rw [hw]; exact all_cells he)
            (hv.map fun _ _ _ => same)
          simpa using this
        · simp at h
      · simp only [Option.some.injEq] at h; subst h; exact same (.pb k' off)
    | pr k' idx sz off =>
      simp only [frzV, cond_eq_ite, Nat.beq_eq] at h
      split at h
      · simp at h
      · simp only [Option.some.injEq] at h; subst h; exact same (.pr k' idx sz off)
    | bs k' =>
      simp only [frzV, cond_eq_ite, Nat.beq_eq] at h
      split at h
      · rename_i e
        subst e
        split at h
        · rename_i t l
          simp only [Option.some.injEq] at h; subst h
          cases l with
          | nil => obtain ⟨a, ha⟩ := hblk; rw [ha]; exact .slE t false false a 0 (by simp)
          | cons x r =>
            obtain ⟨cs', rest, e, cap, he, hv, hsv, hcap, hsz⟩ := hblk
            rw [hsv]
            exact .slN t (x :: r) false false (c.σ k).blk 0 cap cs' (by rw [hw]; exact lt_of_heap he) (hno rfl) (fun _ h2 => hbase rfl (hB2 _ h2)) hcap (by simp) (by rw [hw]; exact take_cells he) (rowVals_later L hv)
        · simp at h
      · simp only [Option.some.injEq] at h; subst h; exact same (.bs k')
    | fn f cs cs' hv =>
      simp only [frzV] at h
      split at h
      · rename_i m hm
        simp only [Option.some.injEq] at h; subst h
        exact .fn f m cs' (lists hm hv)
      · simp at h
    | fz => simp only [frzV, Option.some.injEq] at h; subst h; exact .fz
    | mp k' =>
      simp only [frzV, cond_eq_ite, Nat.beq_eq] at h
      split at h
      · simp at h
      · simp only [Option.some.injEq] at h; subst h; exact same (.mp k')
    | mz => simp only [frzV, Option.some.injEq] at h; subst h; exact .mz
    | it k' =>
      simp only [frzV, cond_eq_ite, Nat.beq_eq] at h
      split at h
      · simp at h
      · simp only [Option.some.injEq] at h; subst h; exact same (.it k')
    | nif => simp only [frzV, Option.some.injEq] at h; subst h; exact .nif
    | yf k' =>
      simp only [frzV, cond_eq_ite, Nat.beq_eq] at h
      split at h
      · simp at h
      · simp only [Option.some.injEq] at h; subst h; exact same (.yf k')
end Go.Ge
