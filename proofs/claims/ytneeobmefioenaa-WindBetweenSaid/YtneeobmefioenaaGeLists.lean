/- Lists for the maps' iteration. -/
import Derived.Test.YtneeobmefioenaaGeOne10
namespace Go.Ge
open Go Go.RowKit
/-- What is left of the entries, by their numbers. -/
theorem left_list {α : Type} (born : α → Nat) (q : Nat → Bool) (l : List α) (h : ∀ i x, l[i]? = some x → born x = i) : l.filter (fun x => q (born x)) = ((List.range l.length).filter q).filterMap (fun j => l[j]?) := by
  have key : ∀ (l pre : List α), (∀ i x, (pre ++ l)[i]? = some x → born x = i) → l.filter (fun x => q (born x)) = ((List.range' pre.length l.length).filter q).filterMap (fun j => (pre ++ l)[j]?) := by
    intro l
    induction l with
    | nil => intro pre _; rfl
    | cons x r ih =>
      intro pre hb
      have e : (pre ++ x :: r)[pre.length]? = some x := by simp
      have hx := hb _ _ e
      have := ih (pre ++ [x]) (by simpa using hb)
      simp only [List.length_append, List.length_cons, List.length_nil, Nat.zero_add, List.append_assoc, List.cons_append, List.nil_append] at this
      rw [List.length_cons, List.range'_succ, List.filter_cons, List.filter_cons, hx]
      cases hq : q pre.length with
      | true => simp only [if_true, List.filterMap_cons, e]; rw [this]
      | false => simp only [Bool.false_eq_true, if_false]; exact this
  rw [List.range_eq_range']
  exact key l [] (by simpa using h)
theorem erase_at {js : List Nat} (hn : js.Nodup) : ∀ {i j : Nat}, js[i]? = some j → js.filter (fun x => x != j) = js.eraseIdx i := by
  induction js with
  | nil => intro i j h; simp at h
  | cons a r ih =>
    intro i j h
    have hn2 := List.nodup_cons.1 hn
    cases i with
    | zero =>
      simp at h
      subst h
      rw [List.filter_cons]
      simp only [bne_self_eq_false, Bool.false_eq_true, if_false, List.eraseIdx_zero, List.tail_cons]
      exact List.filter_eq_self.2 fun x hx => by simp only [bne_iff_ne, ne_eq]; rintro rfl; exact hn2.1 hx
    | succ i =>
      simp only [List.getElem?_cons_succ] at h
      have hne : a ≠ j := by rintro rfl; exact hn2.1 (List.mem_of_getElem? h)
      rw [List.filter_cons, if_pos (by simpa using hne), List.eraseIdx_cons_succ, ih hn2.2 h]
theorem fm_get {α β : Type} {f : α → Option β} : ∀ {js : List α}, (∀ j, j ∈ js → (f j).isSome = true) → ∀ (i : Nat), (js.filterMap f)[i]? = (js[i]?).bind f
  | [], _, i => by simp
  | a :: r, h, i => by
    obtain ⟨y, hy⟩ := Option.isSome_iff_exists.1 (h a (by simp))
    rw [List.filterMap_cons, hy]
    cases i with
    | zero => simp [hy]
    | succ i =>
      simp only [List.getElem?_cons_succ]
      exact fm_get (fun j hj => h j (by simp [hj])) i
theorem fm_erase {α β : Type} {f : α → Option β} : ∀ {js : List α}, (∀ j, j ∈ js → (f j).isSome = true) → ∀ (i : Nat), (js.filterMap f).eraseIdx i = (js.eraseIdx i).filterMap f
  | [], _, i => by simp
  | a :: r, h, i => by
    obtain ⟨y, hy⟩ := Option.isSome_iff_exists.1 (h a (by simp))
    rw [List.filterMap_cons, hy]
    cases i with
    | zero => simp
    | succ i =>
      simp only [List.eraseIdx_cons_succ, List.filterMap_cons, hy]
      rw [fm_erase (fun j hj => h j (by simp [hj])) i]
end Go.Ge
