/- Sorts. -/
import Derived.Test.YtneeobmefioenaaGeOne12
namespace Go.Ge
open Go Go.RowKit
/-- One own block written, others made. -/
theorem Sm.setG {w1 : World} {B : Nat → Prop} {M : Nat → Option Blk} {σ : Nat → Slot} {w w' : World} (h : Sm w1 B M σ w) {b : Nat} {blk0 blk : Blk} (h0 : M b = some blk0) (hr0 : blk0.real = true) (hr : blk.real = true)
    (hsz : w.heap.size ≤ w'.heap.size) (hos : w'.os = w.os) (htape : w'.tape = w.tape) (hout : w'.output = w.output ∧ w.drawn ≤ w'.drawn) (hoth : ∀ r, r < w.heap.size → r ≠ (σ b).blk → w'.heap[r]? = w.heap[r]?)
    (hlk : ∀ ka va kt vt lf, blk0 ≠ .map ka va kt vt lf true)
    (hnew : Later (cx B M σ w) (cx B (up M b (some blk)) σ w') → BlkR (up M b (some blk)) (cx B (up M b (some blk)) σ w') b blk) :
    Sm w1 B (up M b (some blk)) σ w' ∧ Later (cx B M σ w) (cx B (up M b (some blk)) σ w') := by
  have hbase := h.base b blk0 h0 hr0
  have hown : ∀ r, own (up M b (some blk)) σ r → own M σ r := by
    rintro r ⟨k, blk2, e, h1, h2⟩
    by_cases hk : k = b
    · subst hk; exact ⟨k, blk0, h0, hr0, h2⟩
    · rw [up_ne _ _ hk] at e; exact ⟨k, blk2, e, h1, h2⟩
  have L : Later (cx B M σ w) (cx B (up M b (some blk)) σ w') :=
    ⟨hsz, fun r hr2 hno => hoth r hr2 fun e => hno ⟨b, blk0, h0, hr0, e.symm⟩, fun r _ ho => hown r ho, fun _ _ hB => .inl hB⟩
  have hw := h.below.size
  refine ⟨⟨h.below.trans ⟨hos, htape, hout, by omega, fun i hi => hoth i (by omega) (by omega)⟩, h.bB, ?_, ?_, ?_⟩, L⟩
  · intro k blk2 e hr2
    by_cases hk : k = b
    · subst hk; exact ⟨hbase.1, by omega⟩
    · rw [up_ne _ _ hk] at e
      have := h.base k blk2 e hr2
      exact ⟨this.1, by omega⟩
  · intro k k' b1 b2 e e' h1 h2 hs
    by_cases hk : k = b <;> by_cases hk' : k' = b
    · rw [hk, hk']
    · subst hk
      rw [up_ne _ _ hk'] at e'
      exact h.inj k k' blk0 b2 h0 e' hr0 h2 hs
    · subst hk'
      rw [up_ne _ _ hk] at e
      exact h.inj k k' b1 blk0 e h0 h1 hr0 hs
    · rw [up_ne _ _ hk] at e
      rw [up_ne _ _ hk'] at e'
      exact h.inj k k' b1 b2 e e' h1 h2 hs
  · intro k blk2 e
    by_cases hk : k = b
    · subst hk
      simp only [up_same, Option.some.injEq] at e
      subst e
      exact hnew L
    · rw [up_ne _ _ hk] at e
      have hne : blk2.real = true → (σ k).blk ≠ (σ b).blk := fun hr2 e2 => hk (h.inj k b blk2 blk0 e h0 hr2 hr0 e2)
      refine (h.blk k blk2 e).later L (fun hr2 => hoth _ (h.base k blk2 e hr2).2 (hne hr2)) rfl (fun _ => .inr rfl) (fun m ka va kt vt l cur hbk lf hm => ?_)
      by_cases hmb : m = b
      · subst hmb
        rw [h0] at hm
        simp only [Option.some.injEq] at hm
        exact absurd hm (hlk ka va kt vt lf)
      · have : (σ m).blk ≠ (σ b).blk := fun e2 => hmb (h.inj m b _ blk0 hm h0 rfl hr0 e2)
        exact ⟨.inl (by rw [up_ne _ _ hmb]; exact hm), hoth _ (h.base m _ hm rfl).2 this⟩
section
variable {R : Type} {H : Hk R} {r : R} {k : V → Eff → Option R} {P : Program} {F : Fence} {n : Nat} {w1 : World} {B : Nat → Prop} {M : Nat → Option Blk} {σ : Nat → Slot} {w : World} {a : Act} {o : Oper} {d : Nat} {E : Nat → Option V}
theorem one_srt (hF : Open F) (HC : Law P H r) (sm : Sm w1 B M σ w) (en : EnvR (cx B M σ w) E a) {c : Call} {f : Nat} {x y : Operand} {x' y' : Opd} (ho : o.op = .call c) (hc : c.callee = .value (.func f)) (ha : c.args = #[x, y]) (hx : opdOk x x' = true) (hy : opdOk y y' = true)
    (h : evI H (.srt f x' y') d E M k = some r) : Snd r k P F n w1 B M σ w a o d := by
  have run : ∀ fn, P.funcs[f]? = some fn → (fn.name == "runtime.NumGoroutine") = false → fn.body.isNone = false → (execOp a.eval o).run P w = .ok (.enter f #[a.eval x, a.eval y]) w := by
    intro fn hfn hname hbody
    have e1 : a.eval (.func f) = .func (.func f) #[] #[] := rfl
    have e2 : c.args.map a.eval = #[a.eval x, a.eval y] := by rw [ha]; simp
    simp only [execOp, ho, resolve, hc, e1, e2, Deferred.ofValue, Sem.run_bind, Sem.run_pure, Result.andThen_ok, invoke, callFunc, run_program, hfn, hname, hbody]
    simp
  have none_ : ∀ (ad : Option Addr) (cap : Nat), a.eval x = .slice ad 0 cap → H.Z f = true → k (.tup []) {} = some r → Snd r k P F n w1 B M σ w a o d := by
    intro ad cap hax hz hk K Q hK
    have hco := HC.sort0 f hz
    obtain ⟨fn, hfn, hname, hbody⟩ := hco.enters
    refine ⟨fun f _ => hF.fn f, ?_⟩
    rw [semAt_exec (by simp [ho]), run fn hfn hname hbody, Oper.uponIn_enter]
    refine ⟨fun h => by rw [hF.depth] at h; simp at h, ?_⟩
    rw [hax]
    refine (hF.calls (hco.calls w (a.eval y) ad cap (n - 1))).mono fun e w' => ?_
    rintro ⟨rfl, hb⟩
    exact hK _ _ _ w' hk (post_below sm hb (.tup [] [] .nil))
  simp only [evI] at h
  split at h
  · rename_i b hb
    split at h
    · rename_i t l hM
      split at h
      · rename_i g hcv
        have ex := (opd_sound en hx hb).bs_inv
        simp only [cx] at ex
        obtain ⟨caps', ey, hcaps⟩ := (opd_sound en hy hcv).fn_inv
        cases hcaps
        split at h
        · simp only [cond_eq_ite] at h
          split at h
          · rename_i hz
            obtain ⟨ad, had⟩ : ∃ ad, (σ b).sv = .slice ad 0 0 := sm.blk b _ hM
            exact none_ ad 0 (by rw [ex, had]) hz h
          · simp at h
        · rename_i z l
          simp only [cond_eq_ite] at h
          split at h
          · rename_i hfl
            obtain ⟨cs', rest, e, cap, he, hv, hsv, hcap, hszz⟩ := sm.blk b _ hM
            simp only [cx] at he hsv
            have hco := HC.sort f t (z :: l) g _ h (by simp)
            obtain ⟨fn, hfn, hname, hbody⟩ := hco.enters
            have hblt : (σ b).blk < w.heap.size := (sm.base b _ hM rfl).2
            intro K Q hK
            refine ⟨fun f _ => hF.fn f, ?_⟩
            rw [semAt_exec (by simp [ho]), run fn hfn hname hbody, Oper.uponIn_enter]
            refine ⟨fun h => by rw [hF.depth] at h; simp at h, ?_⟩
            rw [ex, hsv, ey]
            refine (hF.calls (hco.calls w (cx B M σ w) (σ b).blk cap cs' rest e (n - 1) he hv)).mono fun x w' => ?_
            rintro ⟨rfl, hsz, hos, htape, hout, hoth, l', cs2, hl', he2, hv2, hk⟩
            refine hK (.tup []) { set := some (b, .row t l') } _ w' hk ?_
            intro _ _
            cases l' with
            | nil => simp at hl'
            | cons z' l' =>
              have hlen : ((z' :: l').flatMap (unpack false t)).length = ((z :: l).flatMap (unpack false t)).length := by rw [length_flat, length_flat, hl']
              have hlc : cs2.length = cs'.length := by rw [← hv2.length, ← hv.length, hlen]
              obtain ⟨s, L⟩ := sm.setG (blk := .row t (z' :: l')) (w' := w') hM rfl rfl hsz hos htape hout hoth (fun _ _ _ _ _ e => by cases e) (fun L => by
                refine ⟨cs2, rest, e, cap, he2, hv2.later L fun x hx k2 => .inl ?_, ?_, by rw [hl']; exact hcap, by simp only [List.length_append] at hszz ⊢; omega⟩
                · simp only [List.mem_flatMap] at hx
                  obtain ⟨y, _, hy⟩ := hx
                  exact ⟨1, mentions_unpack k2 false t y x hy⟩
                · show (σ b).sv = .slice (some ⟨(σ b).blk, 0, none⟩) (z' :: l').length cap
                  rw [hl']
                  exact hsv)
              exact ⟨σ, s, L, fun _ => .inl rfl, .tup [] [] .nil⟩
          · simp at h
      · simp at h
    · simp at h
  · rename_i t e1 e2 hb
    split at h
    · simp only [cond_eq_ite] at h
      split at h
      · rename_i hz
        obtain ⟨ad, cap, q1, -⟩ := (opd_sound en hx hb).sl_inv
        exact none_ ad cap (by simpa using q1) hz h
      · simp at h
    · simp at h
  · simp at h
end
end Go.Ge
