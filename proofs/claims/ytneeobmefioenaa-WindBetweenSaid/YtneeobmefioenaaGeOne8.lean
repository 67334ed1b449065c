/- Calls. -/
import Derived.Test.YtneeobmefioenaaGeOne7
import Derived.RangeFuncCalls
namespace Go.Ge
open Go Go.RowKit

/-- What a caller may count on: the function f, called with the values vs (lent), answers with one of which G holds; whatever lay lies as it lay. -/
structure CallOk (P : Program) (f : Nat) (vs : List V) (G : V → Prop) : Prop where
  enters : ∃ fn, P.funcs[f]? = some fn ∧ (fn.name == "runtime.NumGoroutine") = false ∧ fn.body.isNone = false
  calls : ∀ (w : World) (B : Nat → Prop) (σ : Nat → Slot) (args' : List Value) (n : Nat), (∀ r, B r → r < w.heap.size) → VRs ⟨w, fun _ => False, σ, B⟩ vs args' →
    CallsIn Fence.wide n P f args'.toArray w fun e w' => ∃ v v', e = .returned v' ∧ Below w.heap.size w w' ∧ VR ⟨w', fun _ => False, σ, B⟩ v v' ∧ pureV 5 v = true ∧ G v

/-- The fences in which code is walked: nothing is kept out. -/
structure Open (F : Fence) : Prop where
  fn : ∀ f, F.fn f
  depth : F.depth = none
  calls : ∀ {n P f args w R}, CallsIn Fence.wide n P f args w R → CallsIn F n P f args w R
  rounds : ∀ {n P l f tmps asg body w R}, RoundIn Fence.wide n P l f tmps asg body w R → RoundIn F n P l f tmps asg body w R
theorem open_wide : Open Fence.wide := ⟨fun _ => trivial, rfl, fun h => h, fun h => h⟩
theorem open_round (l : Nat) : Open (Fence.wide.inRound l) := ⟨fun _ => trivial, rfl, fun h => h, fun h => h⟩

/-- What a caller of slices.Grow at nil may count on. -/
structure GrowOk (P : Program) (f : Nat) (t : Ty) (n : Nat) : Prop where
  enters : ∃ fn, P.funcs[f]? = some fn ∧ (fn.name == "runtime.NumGoroutine") = false ∧ fn.body.isNone = false
  calls : ∀ (w : World) (m : Nat), CallsIn Fence.wide m P f #[.slice none 0 0, .int .i64 n] w fun e w' => Below w.heap.size w w' ∧ ∃ a cap, e = .returned (.slice a 0 cap) ∧ (n = 0 → cap = 0) ∧
    (0 < n → ∃ blk cs et, a = some ⟨blk, 0, none⟩ ∧ w.heap.size ≤ blk ∧ blk < w'.heap.size ∧ w'.heap[blk]? = some (.cells (cs : List Value).toArray et (0, 0)) ∧ cap * tsize t ≤ cs.length)
/-- What a caller of a sort may count on (g: the function that compares): the row is another one, of which G holds; nothing else that lay is turned. -/
structure SortOk (P : Program) (f : Nat) (t : Ty) (l : List (T t)) (g : Nat) (G : List (T t) → Prop) : Prop where
  enters : ∃ fn, P.funcs[f]? = some fn ∧ (fn.name == "runtime.NumGoroutine") = false ∧ fn.body.isNone = false
  calls : ∀ (w : World) (c : Cx) (blk cap : Nat) (cs rest : List Value) (e : TypeId) (n : Nat), w.heap[blk]? = some (.cells (cs ++ rest).toArray e (0, 0)) → VRs c (l.flatMap (unpack false t)) cs →
    CallsIn Fence.wide n P f #[.slice (some ⟨blk, 0, none⟩) l.length cap, .func (.func g) #[] #[]] w fun x w' => x = .returned (.tuple #[]) ∧ w.heap.size ≤ w'.heap.size ∧ w'.os = w.os ∧ w'.tape = w.tape ∧ (w'.output = w.output ∧ w.drawn ≤ w'.drawn) ∧ (∀ r, r < w.heap.size → r ≠ blk → w'.heap[r]? = w.heap[r]?) ∧
      ∃ l' cs', l'.length = l.length ∧ w'.heap[blk]? = some (.cells (cs' ++ rest).toArray e (0, 0)) ∧ VRs c (l'.flatMap (unpack false t)) cs' ∧ G l'
/-- A sort of nothing. -/
structure Sort0Ok (P : Program) (f : Nat) : Prop where
  enters : ∃ fn, P.funcs[f]? = some fn ∧ (fn.name == "runtime.NumGoroutine") = false ∧ fn.body.isNone = false
  calls : ∀ (w : World) (c' : Value) (a : Option Addr) (cap n : Nat), CallsIn Fence.wide n P f #[.slice a 0 cap, c'] w fun x w' => x = .returned (.tuple #[]) ∧ Below w.heap.size w w'
/-- What the hooks must hold to. -/
structure Law {R : Type} (P : Program) (H : Hk R) (r : R) : Prop where
  call : ∀ f vs kk, H.C f vs kk = some r → CallOk P f vs fun v => kk v = some r
  join : ∀ l, H.J l = some r → ∀ x, x ∈ l → x = some r
  grow : ∀ f t n, H.G f t n = true → GrowOk P f t n
  sort : ∀ f t l c kk, H.S f t l c kk = some r → l ≠ [] → SortOk P f t l c fun l' => kk l' = some r
  sort0 : ∀ f, H.Z f = true → Sort0Ok P f
section
variable {R : Type} {H : Hk R} {r : R} {k : V → Eff → Option R} {P : Program} {F : Fence} {n : Nat} {w1 : World} {B : Nat → Prop} {M : Nat → Option Blk} {σ : Nat → Slot} {w : World} {a : Act} {o : Oper} {d : Nat} {E : Nat → Option V}
theorem one_call (hF : Open F) (HC : Law P H r) (sm : Sm w1 B M σ w) (en : EnvR (cx B M σ w) E a)
    {c : Call} {x : Operand} {x' : Opd} {ys : List Opd} (ho : o.op = .call c) (hc : c.callee = .value x) (hx : opdOk x x' = true) (hy : opdsOk c.args.toList ys = true) (h : evI H (.call x' ys) d E M k = some r) : Snd r k P F n w1 B M σ w a o d := by
  simp only [evI] at h
  split at h
  · rename_i f caps hf
    obtain ⟨caps', ef, hcaps⟩ := (opd_sound en hx hf).fn_inv
    split at h
    · rename_i vs hvs
      have hargs := opds_sound en hy hvs
      split at h
      · rename_i us hus
        have hall := hargs.append hcaps
        have hBb : ∀ r, (B r ∨ own M σ r) → r < w.heap.size := by
          rintro q (hq | ⟨k2, blk, e1, e2, e3⟩)
          · exact Nat.lt_of_lt_of_le (sm.bB q hq) sm.below.size
          · rw [← e3]; exact (sm.base k2 blk e1 e2).2
        have hlent : VRs ⟨w, fun _ => False, σ, fun r => B r ∨ own M σ r⟩ us (c.args.toList.map a.eval ++ caps') :=
          mapO_VRs hus hall fun x y x' _ e r => snap_sound (c := cx B M σ w) (c2 := ⟨w, fun _ => False, σ, fun r => B r ∨ own M σ r⟩) sm.blk (fun k2 blk e1 e2 hB => by
            have h1 := sm.bB _ hB
            have h2 := (sm.base k2 blk e1 e2).1
            simp only [cx] at h1
            omega) rfl (fun _ h => h) (fun q hq => hq.imp id fun h => ⟨rfl, h⟩) 5 x y x' e r
        have hco := HC.call f us _ h
        obtain ⟨fn, hfn, hname, hbody⟩ := hco.enters
        have hcall := hco.calls w _ σ _ (n - 1) hBb hlent
        intro K Q hK
        have hrun : (execOp a.eval o).run P w = .ok (.enter f (c.args.toList.map a.eval ++ caps').toArray) w := by
          have e1 : (c.args.map a.eval) ++ caps'.toArray = (c.args.toList.map a.eval ++ caps').toArray := by
            apply Array.ext'; simp
          simp only [execOp, ho, resolve, hc, ef, Deferred.ofValue, Sem.run_bind, Sem.run_pure, Result.andThen_ok, invoke, callFunc, run_program, hfn, hname, hbody]
          simp [← e1]
        refine ⟨fun f _ => hF.fn f, ?_⟩
        rw [semAt_exec (by simp [ho]), hrun, Oper.uponIn_enter]
        refine ⟨fun h => by rw [hF.depth] at h; simp at h, (hF.calls hcall).mono fun e w' => ?_⟩
        rintro ⟨v, v', rfl, hbelow, hv, hp, hk⟩
        exact hK v {} v' w' hk (post_below sm hbelow (VR.adopt (c := ⟨w', fun _ => False, σ, fun r => B r ∨ own M σ r⟩) (c' := cx B M σ w') ⟨rfl, fun r _ h => .inr h, fun r _ h => .inl h⟩ hv ⟨5, hp⟩))
      · simp at h
    · simp at h
  · simp at h
end
end Go.Ge
