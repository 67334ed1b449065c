/- Maps. -/
import Derived.Test.YtneeobmefioenaaGeOne8
namespace Go.Ge
open Go Go.RowKit
theorem range_all {α : Type} (l : List α) : (List.range l.length).filterMap (fun j => l[j]?) = l := by
  have key : ∀ (l pre : List α), (List.range' pre.length l.length).filterMap (fun j => (pre ++ l)[j]?) = l := by
    intro l
    induction l with
    | nil => intro pre; rfl
    | cons x r ih =>
      intro pre
      rw [List.length_cons, List.range'_succ, List.filterMap_cons]
      have e : (pre ++ x :: r)[pre.length]? = some x := by simp
      rw [e]
      have := ih (pre ++ [x])
      simp only [List.length_append, List.length_cons, List.length_nil, Nat.zero_add, List.append_assoc, List.cons_append, List.nil_append] at this
      rw [this]
  rw [List.range_eq_range']
  exact key l []
section
variable {R : Type} {H : Hk R} {r : R} {k : V → Eff → Option R} {P : Program} {F : Fence} {n : Nat} {w1 : World} {B : Nat → Prop} {M : Nat → Option Blk} {σ : Nat → Slot} {w : World} {a : Act} {o : Oper} {d : Nat} {E : Nat → Option V}
theorem one_mkm (hF : ∀ f, F.fn f) (sm : Sm w1 B M σ w) {t : TypeId} {ka va : Bool} {kt vt : Ty} (ho : o.op = .makeMap t none) (h : evI H (.mkm ka va kt vt) d E M k = some r) : Snd r k P F n w1 B M σ w a o d := by
  simp only [evI] at h
  have hB : Below w.heap.size w (w.alloc (.map #[] 0)) := (Below.refl _ _).alloc (Nat.le_refl _) _
  refine Snd.value hF (by simp [ho]) h (v' := .map (some w.heap.size)) (w' := w.alloc (.map #[] 0)) (by simp [execOp, ho, Instr.makeMap]) ?_
  intro hfree hmen
  obtain ⟨s, L⟩ := sm.new hB d ⟨w.heap.size, none, 0, 0, #[], none⟩ (.map ka va kt vt [] false) (fun _ => ⟨Nat.le_refl _, by simp⟩) (fun k b e h => hfree rfl k b e h) (fun L => by
    refine ⟨#[], 0, ?_, ⟨rfl, rfl, fun j p hp => by simp at hp⟩⟩
    simp only [cx, up_same]
    show (w.heap.push _)[w.heap.size]? = _
    simp)
  refine ⟨_, s, L, fun k => ?_, ?_⟩
  · by_cases h : k = d
    · exact .inr ⟨rfl, h⟩
    · exact .inl (up_ne _ _ h)
  · have := VR.mp (c := cx B (effM d { new := some (.map ka va kt vt [] false) } M) (up σ d ⟨w.heap.size, none, 0, 0, #[], none⟩) (w.alloc (.map #[] 0))) d
    simpa [cx, up_same] using this
/-- The map that an own block holds. -/
theorem map_inv (sm : Sm w1 B M σ w) {b : Nat} {ka va : Bool} {kt vt : Ty} {l : List (T kt × T vt)} {lo : Bool} (hM : M b = some (.map ka va kt vt l lo)) : ∃ es clock, w.heap[(σ b).blk]? = some (.map es clock) ∧ MapR (cx B M σ w) ka va kt vt l es clock := sm.blk b _ hM
theorem VR.mp_inv {c : Cx} {k : Nat} {v' : Value} (h : VR c (.mp k) v') : v' = .map (some (c.σ k).blk) := by cases h; rfl
theorem VR.it_inv {c : Cx} {k : Nat} {v' : Value} (h : VR c (.it k) v') : v' = .pointer (some ⟨(c.σ k).blk, 0, none⟩) := by cases h; rfl
/-- Another name for what an own block holds. -/
theorem Sm.relabel (h : Sm w1 B M σ w) {b : Nat} {ka va : Bool} {kt vt : Ty} {l : List (T kt × T vt)} {lo : Bool} (hM : M b = some (.map ka va kt vt l lo)) :
    Sm w1 B (up M b (some (.map ka va kt vt l true))) σ w ∧ Later (cx B M σ w) (cx B (up M b (some (.map ka va kt vt l true))) σ w) := by
  refine h.set hM rfl rfl rfl rfl rfl ⟨rfl, Nat.le_refl _⟩ (fun _ _ => rfl) (fun ka' va' kt' vt' lf e => ?_) fun L => ?_
  · cases e; exact ⟨rfl, rfl⟩
  · obtain ⟨es, clock, h1, h2⟩ := map_inv h hM
    exact ⟨es, clock, h1, h2.mono L⟩
theorem one_rng (hF : ∀ f, F.fn f) (sm : Sm w1 B M σ w) (en : EnvR (cx B M σ w) E a) {t kt' vt' : TypeId} {x : Operand} {x' : Opd} (ho : o.op = .range t x) (hx : opdOk x x' = true) (ht : P.underlying t = some (.map kt' vt')) (h : evI H (.rng x') d E M k = some r) : Snd r k P F n w1 B M σ w a o d := by
  simp only [evI] at h
  split at h
  · rename_i b hb
    split at h
    · rename_i ka va kt vt l lo hM
      have ex := (opd_sound en hx hb).mp_inv
      obtain ⟨es, clock, he, hr⟩ := map_inv sm hM
      have hlt : (σ b).blk < w.heap.size := (sm.base b _ hM rfl).2
      have hB : Below w.heap.size w (w.alloc (.mapIter (some (σ b).blk) clock #[] clock)) := (Below.refl _ _).alloc (Nat.le_refl _) _
      refine Snd.value hF (by simp [ho]) h (v' := .pointer (some ⟨w.heap.size, 0, none⟩)) (w' := w.alloc (.mapIter (some (σ b).blk) clock #[] clock)) ?_ ?_
      · simp only [cx] at ex
        simp [execOp, ho, ex, Instr.range, run_und ht, getObj, Sem.run, he]
      · intro hfree hmen
        obtain ⟨s1, L1⟩ := sm.relabel hM
        have hdb : d ≠ b := by
          intro e
          have := hmen _ rfl
          simp [menB, e] at this
        obtain ⟨s, L⟩ := s1.new hB d ⟨w.heap.size, none, 0, 0, #[], none⟩ (.itr b ka va kt vt l none) (fun _ => ⟨Nat.le_refl _, by simp⟩) (fun k blk e h => hfree rfl k blk e h) (fun L => by
          refine ⟨l, es, clock, clock, #[], clock, ?_, ?_, .inl ?_, ?_, ?_, hr.clock, ?_, fun h => absurd rfl h, fun p h => by cases h⟩
          · simp only [cx, up_same, up_ne σ _ (Ne.symm hdb)]
            show (w.heap.push _)[w.heap.size]? = _
            simp
          · simp only [cx, up_ne σ _ (Ne.symm hdb)]
            have : (w.alloc (.mapIter (some (σ b).blk) clock #[] clock)).heap.size = w.heap.size + 1 := by simp
            omega
          · rw [up_ne _ _ (Ne.symm hdb), up_same]
          · simp only [cx, up_ne σ _ (Ne.symm hdb)]
            rw [Below.heap_alloc w _ _ hlt]
            exact he
          · exact (hr.mono L1).mono L
          · rw [List.filter_eq_self.2 (fun a _ => by simp)]
            exact (range_all l).symm)
        refine ⟨_, s, ⟨Nat.le_trans L1.size L.size, fun q hq ho => (L.heap q hq fun h => ho (L1.own q hq h)), fun q hq h => L1.own q hq (L.own q hq h), fun q hq h => (L.B q hq h).elim .inl fun h => .inr (L1.own q hq h)⟩, fun k => ?_, ?_⟩
        · by_cases h : k = d
          · exact .inr ⟨rfl, h⟩
          · exact .inl (up_ne _ _ h)
        · have := VR.it (c := cx B (effM d { set := some (b, .map ka va kt vt l true), new := some (.itr b ka va kt vt l none) } M) (up σ d ⟨w.heap.size, none, 0, 0, #[], none⟩) (w.alloc (.mapIter (some (σ b).blk) clock #[] clock))) d
          simpa [cx, up_same] using this
    · simp at h
  · simp at h
theorem MapR.find {c : Cx} {ka va : Bool} {kt vt : Ty} {l : List (T kt × T vt)} {es : Array MapEntry} {clock j : Nat} {e : MapEntry} (h : MapR c ka va kt vt l es clock) (he : es[j]? = some e) (hb : e.born = j) : es.find? (fun x => x.born == j) = some e := by
  cases hf : es.find? (fun x => x.born == j) with
  | none =>
    rw [Array.find?_eq_none] at hf
    have := hf e (Array.mem_of_getElem? he)
    simp [hb] at this
  | some e2 =>
    have hm := Array.mem_of_find?_eq_some hf
    have hbn : e2.born = j := by have := Array.find?_some hf; simpa using this
    obtain ⟨i, hi, hie⟩ := Array.mem_iff_getElem.1 hm
    have hil : i < l.length := by rw [← h.size]; exact hi
    obtain ⟨e3, a, v, h1, h2, -⟩ := h.at_ i _ (List.getElem?_eq_getElem hil)
    rw [Array.getElem?_eq_getElem hi, hie] at h1
    simp only [Option.some.injEq] at h1
    subst h1
    have hij : i = j := by rw [← h2, hbn]
    subst hij
    rw [Array.getElem?_eq_getElem hi, hie] at he
    exact he
theorem one_ent (hF : ∀ f, F.fn f) (sm : Sm w1 B M σ w) (en : EnvR (cx B M σ w) E a) {x : Operand} {x' : Opd} (ho : o.op = .entry x) (hx : opdOk x x' = true) (h : evI H (.ent x') d E M k = some r) : Snd r k P F n w1 B M σ w a o d := by
  simp only [evI] at h
  split at h
  · rename_i b hb
    split at h
    · rename_i m ka va kt vt l p hM
      split at h
      · rename_i av hav
        split at h
        · rename_i vv hvv
          have ex := (opd_sound en hx hb).it_inv
          obtain ⟨lf, es, clock, since, seen, stepped, he, hlt, hMm, hes, hr, q1, q2, q3, q4⟩ := sm.blk b _ hM
          obtain ⟨j, hj, hs⟩ := q4 p rfl
          obtain ⟨e, a', v', hej, hborn, ha, hra, hv, hrv⟩ := hr.at_ j p hj
          rw [hav] at ha
          rw [hvv] at hv
          simp only [Option.some.injEq] at ha hv
          subst ha hv
          have hst : stepped = clock := by rw [hr.clock]; exact q3 (fun e0 => by subst e0; simp at hs)
          have hfind := hr.find hej hborn
          refine Snd.pure hF (by simp [ho]) sm h (v' := .tuple #[e.key, e.val]) ?_ (.tup _ [e.key, e.val] (.cons hra (.cons hrv .nil)))
          simp only [cx] at ex he hes
          simp [execOp, ho, ex, Instr.entry, getObj, Sem.run, he, hs, hes, hst, hfind]
        · simp at h
      · simp at h
    · simp at h
  · simp at h
end
end Go.Ge
