/- The instructions, one after the other: what the evaluator says of it is what the model does. -/
import Derived.Test.YtneeobmefioenaaGeStep
namespace Go.Ge
open Go Go.RowKit

theorem cells_sound {c : Cx} {v : V} {v' : Value} (h : VR c v v') (hs : v.cells.all scal = true) : VRs c v.cells v'.cells.toList := by
  cases v with
  | agg cs => cases h with | agg _ cs' _ hv => simpa [V.cells, Value.cells] using hv
  | tup cs => simp [V.cells, scal] at hs
  | bs k =>
    have hv := h
    cases h
    exact .cons hv .nil
  | _ =>
    have hv := h
    cases h
    all_goals exact .cons hv .nil
theorem VR.b_inv {c : Cx} {x : Bool} {v' : Value} (h : VR c (.b x) v') : v' = .bool x := by cases h; rfl
theorem VR.i_inv {c : Cx} {k : IntKind} {x : Int} {v' : Value} (h : VR c (.i k x) v') : v' = .int k x := by cases h; rfl
theorem VR.s_inv {c : Cx} {x : ByteArray} {v' : Value} (h : VR c (.s x) v') : v' = .string x := by cases h; rfl
theorem VR.agg_inv {c : Cx} {cs : List V} {v' : Value} (h : VR c (.agg cs) v') : ∃ cs', v' = .agg cs'.toArray ∧ VRs c cs cs' ∧ cs.all scal = true := by cases h; exact ⟨_, rfl, by assumption, by assumption⟩
theorem VR.yf_inv {c : Cx} {q : Nat} {v' : Value} (h : VR c (.yf q) v') : v' = .func (.yield (c.σ q).blk) #[] #[] := by cases h; rfl
theorem VR.tup_inv {c : Cx} {cs : List V} {v' : Value} (h : VR c (.tup cs) v') : ∃ cs', v' = .tuple cs'.toArray ∧ VRs c cs cs' := by cases h; exact ⟨_, rfl, by assumption⟩
theorem VR.pb_inv {c : Cx} {k o : Nat} {v' : Value} (h : VR c (.pb k o) v') : v' = .pointer (some ⟨(c.σ k).blk, o, none⟩) := by cases h; rfl
theorem VR.pr_inv {c : Cx} {k i s o : Nat} {v' : Value} (h : VR c (.pr k i s o) v') : v' = .pointer (some ⟨(c.σ k).blk, i * s + o, none⟩) := by cases h; rfl
theorem VR.bs_inv {c : Cx} {k : Nat} {v' : Value} (h : VR c (.bs k) v') : v' = (c.σ k).sv := by cases h; rfl
theorem VR.pc_inv {c : Cx} {cs : List V} {off : Nat} {bor : Bool} {v' : Value} (h : VR c (.pc cs off bor) v') :
    ∃ blk o cs', v' = .pointer (some ⟨blk, o + off, none⟩) ∧ blk < c.w.heap.size ∧ ¬ c.own blk ∧ (bor = false → ¬ c.B blk) ∧ cs.all scal = true ∧ Cells c.w blk o cs' ∧ VRs c cs cs' := by
  cases h; exact ⟨_, _, _, rfl, by assumption, by assumption, by assumption, by assumption, by assumption, by assumption⟩
theorem VR.fn_inv {c : Cx} {f : Nat} {cs : List V} {v' : Value} (h : VR c (.fn f cs) v') : ∃ cs', v' = .func (.func f) #[] cs'.toArray ∧ VRs c cs cs' := by cases h; exact ⟨_, rfl, by assumption⟩
theorem VR.sl_inv {c : Cx} {t : Ty} {l : List (T t)} {bor ex : Bool} {v' : Value} (h : VR c (.sl t l bor ex) v') :
    ∃ a' cap, v' = .slice a' l.length cap ∧ l.length ≤ cap ∧ (ex = true → cap = l.length) ∧ (l = [] ∨ ∃ blk off cs, a' = some ⟨blk, off, none⟩ ∧ blk < c.w.heap.size ∧ ¬ c.own blk ∧ (bor = false → ¬ c.B blk) ∧ Cells c.w blk off cs ∧ VRs c (l.flatMap (unpack bor t)) cs) := by
  cases h
  · exact ⟨_, _, rfl, by simp, by assumption, .inl rfl⟩
  · exact ⟨_, _, rfl, by assumption, by assumption, .inr ⟨_, _, _, rfl, by assumption, by assumption, by assumption, by assumption, by assumption⟩⟩
theorem agg_scal {c : Cx} {cs : List V} {v' : Value} (h : VR c (.agg cs) v') : cs.all scal = true := by cases h; assumption
theorem takeN_spec : ∀ {n : Nat} {l m : List V}, takeN n l = some m → m.length = n ∧ ∃ r, l = m ++ r
  | 0, l, m, h => by simp [takeN] at h; subst h; exact ⟨rfl, l, rfl⟩
  | n + 1, [], m, h => by simp [takeN] at h
  | n + 1, c :: l, m, h => by
    simp only [takeN] at h
    split at h
    · rename_i m' hm
      simp only [Option.some.injEq] at h
      subst h
      obtain ⟨h1, r, h2⟩ := takeN_spec hm
      exact ⟨by simp [h1], r, by simp [h2]⟩
    · simp at h
theorem cutN_spec {n : Nat} : ∀ {off : Nat} {l m : List V}, cutN n off l = some m → m.length = n ∧ ∃ p q, l = p ++ m ++ q ∧ p.length = off
  | 0, l, m, h => by
    simp only [cutN] at h
    obtain ⟨h1, r, h2⟩ := takeN_spec h
    exact ⟨h1, [], r, by simp [h2], rfl⟩
  | off + 1, [], m, h => by simp [cutN] at h
  | off + 1, c :: l, m, h => by
    simp only [cutN] at h
    obtain ⟨h1, p, q, h2, h3⟩ := cutN_spec h
    exact ⟨h1, c :: p, q, by simp [h2], by simp [h3]⟩
theorem VRs.cut {c : Cx} {n off : Nat} {l m : List V} {cs : List Value} (h : VRs c l cs) (hc : cutN n off l = some m) :
    m.length = n ∧ ∃ p' m' q', cs = p' ++ m' ++ q' ∧ p'.length = off ∧ m'.length = n ∧ VRs c m m' ∧ (l.all scal = true → m.all scal = true) := by
  obtain ⟨h1, p, q, rfl, h3⟩ := cutN_spec hc
  obtain ⟨x, q', rfl, hx, hq⟩ := VRs.split h
  obtain ⟨p', m', rfl, hp, hm⟩ := VRs.split hx
  exact ⟨h1, p', m', q', rfl, by rw [← hp.length, h3], by rw [← hm.length, h1], hm, fun hs => by simp only [List.all_append, Bool.and_eq_true] at hs; exact hs.1.2⟩
theorem Cells.mid {w : World} {b o : Nat} {p m q : List Value} (h : Cells w b o (p ++ m ++ q)) : Cells w b (o + p.length) m := by
  intro j v hj
  have := h (p.length + j) v (by
    rw [List.append_assoc, List.getElem?_append_right (by omega)]
    rw [show p.length + j - p.length = j by omega]
    rw [List.getElem?_append_left (List.getElem?_eq_some_iff.1 hj).1]
    exact hj)
  rw [← this]; congr 2; omega
theorem of_sound {c : Cx} {agg : Bool} {cs : List V} {v : V} {cs' : List Value} (h : V.of agg cs = some v) (hs : cs.all scal = true) (hv : VRs c cs cs') :
    (agg = true ∧ VR c v (.agg cs'.toArray)) ∨ (agg = false ∧ ∃ x, cs' = [x] ∧ VR c v x) := by
  cases agg with
  | true =>
    simp only [V.of, Option.some.injEq] at h
    subst h
    exact .inl ⟨rfl, .agg cs cs' hs hv⟩
  | false =>
    simp only [V.of] at h
    split at h
    · simp only [Option.some.injEq] at h
      subst h
      cases hv with
      | cons a b => cases b; exact .inr ⟨rfl, _, rfl, a⟩
    · simp at h

section
variable {R : Type} {H : Hk R} {r : R} {k : V → Eff → Option R} {P : Program} {F : Fence} {n : Nat} {w1 : World} {B : Nat → Prop} {M : Nat → Option Blk} {σ : Nat → Slot} {w : World} {a : Act} {o : Oper} {d : Nat} {E : Nat → Option V}
variable (hF : ∀ f, F.fn f) (hd : F.depth = none) (sm : Sm w1 B M σ w) (en : EnvR (cx B M σ w) E a)
include hF sm en

theorem one_mv {x : Operand} {y : Opd} (ho : o.op = .move x ∨ o.op = .assign x) (hx : opdOk x y = true) (h : evI H (.mv y) d E M k = some r) : Snd r k P F n w1 B M σ w a o d := by
  simp only [evI] at h
  split at h
  · rename_i v hv
    exact Snd.pure hF (by rcases ho with ho | ho <;> simp [ho]) sm h (by rcases ho with ho | ho <;> simp [execOp, ho]) (opd_sound en hx hv)
  · simp at h
theorem one_pick {c x y : Operand} {c' x' y' : Opd} (ho : o.op = .pick c x y) (hc : opdOk c c' = true) (hx : opdOk x x' = true) (hy : opdOk y y' = true) (h : evI H (.pick c' x' y') d E M k = some r) :
    Snd r k P F n w1 B M σ w a o d := by
  simp only [evI] at h
  split at h
  · rename_i b hb
    have e := (opd_sound en hc hb).b_inv
    cases b with
    | true =>
      simp only [cond_true] at h
      split at h
      · rename_i v hv
        refine Snd.pure hF (by simp [ho]) sm h ?_ (opd_sound en hx hv)
        simp [execOp, ho, e, asBool]
      · simp at h
    | false =>
      simp only [cond_false] at h
      split at h
      · rename_i v hv
        refine Snd.pure hF (by simp [ho]) sm h ?_ (opd_sound en hy hv)
        simp [execOp, ho, e, asBool]
      · simp at h
  · simp at h
omit en hF in
theorem post_new {cs : List V} {cs' : Array Value} {e : TypeId} (hs : cs.all scal = true) (hv : VRs (cx B M σ w) cs cs'.toList) :
    Post w1 B M σ w d { new := some (.cells cs) } (.pb d 0) (.pointer (some ⟨w.heap.size, 0, none⟩)) (w.alloc (.cells cs' e)) := by
  intro hfree hmen
  have hb : Below w.heap.size w (w.alloc (.cells cs' e)) := (Below.refl _ _).alloc (Nat.le_refl _) _
  have hm : ∀ k b, M k = some b → k ≠ d → menB d b = false := fun k b e h => hfree rfl k b e h
  have hm2 := hmen _ rfl
  simp only [menB, List.any_eq_false] at hm2
  obtain ⟨s, L⟩ := sm.new hb d ⟨w.heap.size, none, 0, 0, #[], none⟩ (.cells cs) (fun _ => ⟨Nat.le_refl _, by simp⟩) hm (fun L => by
    refine ⟨hs, cs'.toList, e, ?_, hv.later L fun x hx k2 => ?_⟩
    · simp only [cx, up_same]
      show (w.heap.push _)[w.heap.size]? = _
      simp
    · by_cases h2 : k2 = d
      · subst h2; exact .inl ⟨5, by simpa using hm2 x hx⟩
      · exact .inr (up_ne _ _ h2))
  refine ⟨_, s, L, fun k => ?_, ?_⟩
  · by_cases h : k = d
    · exact .inr ⟨rfl, h⟩
    · exact .inl (up_ne _ _ h)
  · have := VR.pb (c := cx B (effM d { new := some (.cells cs) } M) (up σ d ⟨w.heap.size, none, 0, 0, #[], none⟩) (w.alloc (.cells cs' e))) d 0
    simpa [cx, up_same] using this
omit en in
theorem one_al {e : TypeId} {i : TypeInfo} {z : Value} {zs : List V} (ho : o.op = .alloc e) (hi : P.info? e = some i) (hz : i.zero = some z) (hzs : scsOk z.cells.toList zs = true)
    (h : evI H (.al zs) d E M k = some r) : Snd r k P F n w1 B M σ w a o d := by
  simp only [evI] at h
  obtain ⟨h1, h2⟩ := scsOk_sound (c := cx B M σ w) hzs
  exact Snd.value hF (by simp [ho]) h (by simp [execOp, ho, Instr.alloc, zeroValue, run_info hi, hz, newVar, newRow, newObj, Sem.run, Result.andThen]) (post_new (e := e) sm h2 h1)
theorem one_bx {e : TypeId} {x : Operand} {y : Opd} (ho : o.op = .box e x) (hx : opdOk x y = true) (h : evI H (.bx y) d E M k = some r) : Snd r k P F n w1 B M σ w a o d := by
  simp only [evI] at h
  split at h
  · rename_i v hv
    simp only [cond_eq_ite] at h
    split at h
    · rename_i hs
      exact Snd.value hF (by simp [ho]) h (by simp [execOp, ho, Instr.box, newVar, newRow, newObj, Sem.run, Result.andThen]) (post_new (e := e) sm hs (cells_sound (opd_sound en hx hv) hs))
    · simp at h
  · simp at h
end
end Go.Ge
