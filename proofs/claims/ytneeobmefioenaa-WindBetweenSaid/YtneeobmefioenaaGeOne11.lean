/- The next entry of a map. -/
import Derived.Test.YtneeobmefioenaaGeLists
namespace Go.Ge
open Go Go.RowKit
section
variable {R : Type} {H : Hk R} {r : R} {k : V → Eff → Option R} {P : Program} {F : Fence} {n : Nat} {w1 : World} {B : Nat → Prop} {M : Nat → Option Blk} {σ : Nat → Slot} {w : World} {a : Act} {o : Oper} {d : Nat} {E : Nat → Option V}
/-- The entries that are left, and what becomes of the iterator. -/
theorem run_nxt {it m since stepped clock : Nat} {seen : Array Nat} {es : Array MapEntry} {js : List Nat} {isS : TypeId} (hit : w.heap[it]? = some (.mapIter (some m) since seen stepped)) (hm : w.heap[m]? = some (.map es clock)) (hsz : es.size = since) (hborn : ∀ (i : Nat) (e : MapEntry), es[i]? = some e → e.born = i)
    (hst : seen ≠ #[] → stepped = since) (hjs : js = (List.range since).filter fun j => !seen.contains j) :
    (js = [] → ∀ P : Program, (Instr.next (.pointer (some ⟨it, 0, none⟩)) false isS).run P w = .ok (.tuple #[.bool false]) w) ∧
    (js ≠ [] → ∀ P : Program, ∃ (i j : Nat) (e : MapEntry) (w2 : World), js[i]? = some j ∧ es[j]? = some e ∧ (w2 = w ∨ w2 = w.drew) ∧
      (Instr.next (.pointer (some ⟨it, 0, none⟩)) false isS).run P w = .ok (.tuple #[.bool true, e.key, e.val]) { w2 with heap := w2.heap.setIfInBounds it (.mapIter (some m) since (seen.push e.born) clock) }) := by
  have hleft : (es.filter fun e => !seen.contains e.born).toList = js.filterMap fun j => es[j]? := by
    have := left_list (·.born) (fun j => !seen.contains j) es.toList (fun i x h => hborn i x (by simpa using h))
    simp only [Array.length_toList, hsz] at this
    rw [Array.toList_filter, this, hjs]
    simp
  have hpass : (!seen.isEmpty && !es.isEmpty && es.all (·.born ≥ stepped)) = false := by
    by_cases hs : seen = #[]
    · simp [hs]
    · by_cases he : es = #[]
      · simp [he]
      · have h0 : 0 < es.size := Array.size_pos_iff.2 he
        have hb := hborn 0 es[0] (by simp [h0])
        have : es.all (·.born ≥ stepped) = false := by
          rw [Array.all_eq_false]
          exact ⟨0, h0, by rw [hb, hst hs, ← hsz]; simp; omega⟩
        simp [this]
  have hmem : ∀ e, e ∈ es → e.born < since := fun e he => by
    obtain ⟨i, hi, rfl⟩ := Array.mem_iff_getElem.1 he
    rw [hborn i _ (Array.getElem?_eq_getElem hi)]
    omega
  generalize hL : (es.filter fun e => !seen.contains e.born) = L at hleft
  have hmL : ∀ e, e ∈ L → e.born < since := fun e he => hmem e (by rw [← hL] at he; exact (Array.mem_filter.1 he).1)
  have hold : L.filter (·.born < since) = L := Array.filter_eq_self.2 fun e he => by simpa using hmL e he
  have hnew : L.filter (·.born ≥ since) = #[] := Array.filter_eq_empty_iff.2 fun e he => by have := hmL e he; simp; omega
  have hsome : ∀ j, j ∈ js → (es[j]?).isSome = true := fun j hj => by
    rw [hjs] at hj
    have := (List.mem_filter.1 hj).1
    rw [List.mem_range, ← hsz] at this
    simp [this]
  refine ⟨fun h0 P => ?_, fun h0 P => ?_⟩
  · have hLn : L = #[] := by apply Array.ext'; rw [hleft, h0]; rfl
    subst hLn
    simp only [Instr.next, Sem.run_bind, getObj, Sem.run, hit, hm, Result.andThen_ok, hpass, Bool.false_eq_true, if_false, hL, run_choose]
    simp [Question.forced]
  · have hpick : ∀ i, i < L.size → ∃ (j : Nat) (e : MapEntry), js[i]? = some j ∧ es[j]? = some e ∧ L[i]? = some e := fun i hi => by
      have h1 := fm_get hsome i
      rw [← hleft, Array.getElem?_toList, Array.getElem?_eq_getElem hi] at h1
      cases hj : js[i]? with
      | none => rw [hj] at h1; simp at h1
      | some j => rw [hj] at h1; exact ⟨j, L[i], rfl, h1.symm, Array.getElem?_eq_getElem hi⟩
    have hlen : 0 < L.size := by
      rcases Nat.eq_zero_or_pos L.size with h1 | h1
      · exfalso
        have : L = #[] := Array.eq_empty_of_size_eq_zero h1
        cases js with
        | nil => exact h0 rfl
        | cons j r =>
          have h2 := fm_get hsome 0
          rw [← hleft, this] at h2
          obtain ⟨y, hy⟩ := Option.isSome_iff_exists.1 (hsome j (by simp))
          simp [hy] at h2
      · exact h1
    have hne : L.isEmpty = false := by simp; intro h; subst h; simp at hlen
    by_cases hf : (Question.mapNext L.size).forced = true
    · obtain ⟨j, e, h1, h2, h3⟩ := hpick 0 hlen
      refine ⟨0, j, e, w, h1, h2, .inl rfl, ?_⟩
      simp only [Instr.next, Sem.run_bind, getObj, Sem.run, hit, hm, Result.andThen_ok, hpass, Bool.false_eq_true, if_false, hL, hold, hnew, hne, run_choose]
      simp [hf, h3, setObj, Sem.run, hit]
    · have hlt : (Question.mapNext L.size).cut (w.tape w.drawn (.mapNext L.size)) < L.size := Nat.mod_lt _ hlen
      obtain ⟨j, e, h1, h2, h3⟩ := hpick _ hlt
      refine ⟨_, j, e, w.drew, h1, h2, .inr rfl, ?_⟩
      simp only [Instr.next, Sem.run_bind, getObj, Sem.run, hit, hm, Result.andThen_ok, hpass, Bool.false_eq_true, if_false, hL, hold, hnew, hne, run_choose]
      have hitd : w.drew.heap[it]? = some (.mapIter (some m) since seen stepped) := hit
      simp [hf, h3, setObj, Sem.run, hitd]
end
end Go.Ge
