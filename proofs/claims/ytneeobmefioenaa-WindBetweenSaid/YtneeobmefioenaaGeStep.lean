/- One instruction: what is to be shown of it, and the model's small steps. -/
import Derived.Test.YtneeobmefioenaaGeFrz
import Derived.TacticsIn
namespace Go.Ge
open Go Go.RowKit

theorem Later.refl (c : Cx) : Later c c := ⟨Nat.le_refl _, fun _ _ _ => rfl, fun _ _ h => h, fun _ _ h => .inl h⟩

theorem Later.trans {a b c : Cx} (h : Later a b) (k : Later b c) : Later a c :=
  ⟨Nat.le_trans h.size k.size, fun r hr ho => (k.heap r (Nat.lt_of_lt_of_le hr h.size) fun e => ho (h.own r hr e)).trans (h.heap r hr ho), fun r hr e => h.own r hr (k.own r (Nat.lt_of_lt_of_le hr h.size) e),
    fun r hr e => (k.B r (Nat.lt_of_lt_of_le hr h.size) e).elim (h.B r hr) fun e => .inr (h.own r hr e)⟩
/-- What the variables hold. -/
def EnvR (c : Cx) (E : Nat → Option V) (a : Act) : Prop := ∀ t v, E t = some v → ∃ v', a.tmps[t]? = some v' ∧ VR c v v'
theorem EnvR.get {c : Cx} {E : Nat → Option V} {a : Act} (h : EnvR c E a) {t : Nat} {v : V} (e : E t = some v) : VR c v (a.eval (.tmp t)) := by
  obtain ⟨v', h1, h2⟩ := h t v e
  simp only [Act.eval, Array.getD_eq_getD_getElem?, h1, Option.getD_some]
  exact h2

/-! ### Constants and operands -/
def scOk : Value → V → Bool
  | .bool x, .b y => x == y
  | .int k n, .i k' m => decide (k = k') && decide (n = m)
  | .string x, .s y => decide (x.data = y.data)
  | .slice none 0 0, .sl _ [] false true => true
  | .pointer none, .pz => true
  | .nilFunc, .fz => true
  | .map none, .mz => true
  | .nilIface, .nif => true
  | _, _ => false
def scsOk : List Value → List V → Bool
  | [], [] => true
  | x :: r, y :: s => scOk x y && scal y && scsOk r s
  | _, _ => false
def valOk : Value → V → Bool
  | .agg cs, .agg us => scsOk cs.toList us
  | v, u => scOk v u
theorem scOk_sound {c : Cx} {v : Value} {u : V} (h : scOk v u = true) : VR c u v := by
  unfold scOk at h
  split at h
  · simp at h; subst h; exact .b _
  · simp at h; obtain ⟨rfl, rfl⟩ := h; exact .i _ _
  · rename_i x y
    have e : x = y := by cases x; cases y; simp at h; rw [h]
    subst e; exact .s _
  · exact .slE _ _ _ _ _ (fun _ => rfl)
  · exact .pz
  · exact .fz
  · exact .mz
  · exact .nif
  · simp at h
theorem scsOk_sound {c : Cx} : ∀ {l : List Value} {us : List V}, scsOk l us = true → VRs c us l ∧ us.all scal = true
  | [], [], _ => ⟨.nil, rfl⟩
  | x :: r, y :: s, h => by
    simp only [scsOk, Bool.and_eq_true] at h
    have ih := scsOk_sound (c := c) h.2
    exact ⟨.cons (scOk_sound h.1.1) ih.1, by simp [h.1.2, ih.2]⟩
  | [], _ :: _, h => by simp [scsOk] at h
  | _ :: _, [], h => by simp [scsOk] at h
theorem valOk_sound {c : Cx} {v : Value} {u : V} (h : valOk v u = true) : VR c u v := by
  unfold valOk at h
  split at h
  · rename_i cs us
    obtain ⟨h1, h2⟩ := scsOk_sound (c := c) h
    have := VR.agg us cs.toList h2 h1
    simpa using this
  · exact scOk_sound h
def opdOk : Operand → Opd → Bool
  | .tmp t, .t n => Nat.beq t n
  | .const v, .c u => valOk v u
  | .func f, .f n => Nat.beq f n
  | _, _ => false
theorem opd_sound {c : Cx} {E : Nat → Option V} {a : Act} (hE : EnvR c E a) {x : Operand} {y : Opd} (ho : opdOk x y = true) {v : V} (h : ev E y = some v) : VR c v (a.eval x) := by
  unfold opdOk at ho
  split at ho
  · simp only [Nat.beq_eq] at ho; subst ho; exact hE.get h
  · simp only [ev, Option.some.injEq] at h; subst h; exact valOk_sound ho
  · simp only [Nat.beq_eq] at ho; subst ho
    simp only [ev, Option.some.injEq] at h; subst h
    exact .fn _ [] [] .nil
  · simp at ho
def opdsOk : List Operand → List Opd → Bool
  | [], [] => true
  | x :: r, y :: s => opdOk x y && opdsOk r s
  | _, _ => false
theorem opds_sound {c : Cx} {E : Nat → Option V} {a : Act} (hE : EnvR c E a) : ∀ {xs : List Operand} {ys : List Opd}, opdsOk xs ys = true → ∀ {vs : List V}, evs E ys = some vs → VRs c vs (xs.map a.eval)
  | [], [], _, vs, h => by simp [evs, mapO] at h; subst h; exact .nil
  | x :: r, y :: s, ho, vs, h => by
    simp only [opdsOk, Bool.and_eq_true] at ho
    obtain ⟨v, vs', h1, h2, rfl⟩ := mapO_cons h
    exact .cons (opd_sound hE ho.1 h1) (opds_sound hE ho.2 h2)
  | [], _ :: _, ho, _, _ => by simp [opdsOk] at ho
  | _ :: _, [], ho, _, _ => by simp [opdsOk] at ho

/-! ### What is to be shown -/
def cutM (c : Option Nat) (M : Nat → Option Blk) : Nat → Option Blk :=
  match c with
  | some b => up M b none
  | none => M
def effM (d : Nat) (e : Eff) (M : Nat → Option Blk) : Nat → Option Blk :=
  let M1 := cutM e.cut M
  let M2 := match e.set with
    | some (b, blk) => up M1 b (some blk)
    | none => M1
  match e.new with
  | some blk => up M2 d (some blk)
  | none => M2
/-- Behind the instruction. -/
def Post (w1 : World) (B : Nat → Prop) (M : Nat → Option Blk) (σ : Nat → Slot) (w : World) (d : Nat) (e : Eff) (v : V) (v' : Value) (w' : World) : Prop :=
  (e.new.isSome = true → ∀ k b, effM d { e with new := none } M k = some b → k ≠ d → menB d b = false) → (∀ blk, e.new = some blk → menB d blk = false) →
  ∃ σ', Sm w1 B (effM d e M) σ' w' ∧ Later (cx B M σ w) (cx B (effM d e M) σ' w') ∧ (∀ k, σ' k = σ k ∨ (e.new.isSome = true ∧ k = d)) ∧ VR (cx B (effM d e M) σ' w') v v'
def Snd {R : Type} (r : R) (k : V → Eff → Option R) (P : Program) (F : Fence) (n : Nat) (w1 : World) (B : Nat → Prop) (M : Nat → Option Blk) (σ : Nat → Slot) (w : World) (a : Act) (o : Oper) (d : Nat) : Prop :=
  ∀ (K : Act → World → Prop) (Q : Go.Exit → Act → World → Prop), (∀ v e v' w', k v e = some r → Post w1 B M σ w d e v v' w' → K (a.put o.dst v') w') → o.wpIn F n P a w K Q

section
variable {P : Program} {F : Fence} {n : Nat} {w w' : World} {a : Act} {o : Oper} {K : Act → World → Prop} {Q : Go.Exit → Act → World → Prop} {v' : Value}
theorem semAt_exec (hnd : ∀ c, o.op ≠ .defer c) : o.semAt F.round a.eval = execOp a.eval o := by
  cases h : F.round with
  | none => exact Oper.semAt_none _ _
  | some l => exact Oper.semAt_some l _ _ hnd
theorem wp_value (hF : ∀ f, F.fn f) (hnd : ∀ c, o.op ≠ .defer c) (hr : (execOp a.eval o).run P w = .ok (.value v') w') (hk : K (a.put o.dst v') w') : o.wpIn F n P a w K Q :=
  ⟨fun f _ => hF f, by rw [semAt_exec hnd, hr]; exact hk⟩
theorem wp_skipped (hF : ∀ f, F.fn f) (hnd : ∀ c, o.op ≠ .defer c) (hr : (execOp a.eval o).run P w = .ok .skip w') (hk : K (a.put o.dst undef) w') : o.wpIn F n P a w K Q :=
  ⟨fun f _ => hF f, by rw [semAt_exec hnd, hr]; exact hk⟩
end
section
variable {R : Type} {r : R} {k : V → Eff → Option R} {P : Program} {F : Fence} {n : Nat} {w1 : World} {B : Nat → Prop} {M : Nat → Option Blk} {σ : Nat → Slot} {w w' : World} {a : Act} {o : Oper} {d : Nat} {v : V} {v' : Value} {e : Eff}
theorem Snd.value (hF : ∀ f, F.fn f) (hnd : ∀ c, o.op ≠ .defer c) (h : k v e = some r) (hr : (execOp a.eval o).run P w = .ok (.value v') w') (hp : Post w1 B M σ w d e v v' w') : Snd r k P F n w1 B M σ w a o d :=
  fun _ _ hK => wp_value hF hnd hr (hK v e v' w' h hp)
theorem Snd.skipped (hF : ∀ f, F.fn f) (hnd : ∀ c, o.op ≠ .defer c) (h : k v e = some r) (hr : (execOp a.eval o).run P w = .ok .skip w') (hp : Post w1 B M σ w d e v undef w') : Snd r k P F n w1 B M σ w a o d :=
  fun _ _ hK => wp_skipped hF hnd hr (hK v e undef w' h hp)
theorem post_pure (sm : Sm w1 B M σ w) (hv : VR (cx B M σ w) v v') : Post w1 B M σ w d {} v v' w :=
  fun _ _ => ⟨σ, sm, Later.refl _, fun _ => .inl rfl, hv⟩
theorem post_below (sm : Sm w1 B M σ w) (hb : Below w.heap.size w w') (hv : VR (cx B M σ w') v v') : Post w1 B M σ w d {} v v' w' := by
  obtain ⟨s, L⟩ := sm.step hb
  exact fun _ _ => ⟨σ, s, L, fun _ => .inl rfl, hv⟩
theorem Snd.pure (hF : ∀ f, F.fn f) (hnd : ∀ c, o.op ≠ .defer c) (sm : Sm w1 B M σ w) (h : k v {} = some r) (hr : (execOp a.eval o).run P w = .ok (.value v') w) (hv : VR (cx B M σ w) v v') : Snd r k P F n w1 B M σ w a o d :=
  Snd.value hF hnd h hr (post_pure sm hv)
end

/-! ### The program's types -/
def szOf (P : Program) (t : TypeId) : Option Nat := (P.info? t).map (·.size)
def aggOf (P : Program) (t : TypeId) : Option Bool := match P.underlying t with
  | some (.struct _) => some true
  | some (.array _ _) => some true
  | some _ => some false
  | none => none
section
variable {P : Program} {w : World}
theorem run_info {t : TypeId} {i : TypeInfo} (h : P.info? t = some i) : (typeInfo t).run P w = .ok i w := by
  simp [typeInfo, program, Sem.run, h]
theorem run_und {t : TypeId} {i : TypeDesc} (h : P.underlying t = some i) : (underlying t).run P w = .ok i w := by
  simp [underlying, program, Sem.run, h]
theorem run_size {t : TypeId} {n : Nat} (h : szOf P t = some n) : (sizeOf t).run P w = .ok n w := by
  simp only [szOf, Option.map_eq_some_iff] at h
  obtain ⟨i, hi, rfl⟩ := h
  simp [sizeOf, run_info hi, Result.andThen]
theorem run_isAgg {t : TypeId} {b : Bool} (h : aggOf P t = some b) : (isAgg t).run P w = .ok b w := by
  simp only [aggOf] at h
  split at h <;> rename_i e <;> simp at h <;> subst h <;> simp [isAgg, run_und e, Result.andThen]
theorem add_at (b o i : Nat) : (⟨b, o, none⟩ : Addr).add i = ⟨b, o + i, none⟩ := by unfold Addr.add; split <;> simp_all
theorem run_loadCellsFrom (b : Nat) : ∀ (n : Nat) (o i : Nat) (acc : Array Value) (cs : List Value), cs.length = n → Cells w b (o + i) cs → (loadCellsFrom ⟨b, o, none⟩ i n acc).run P w = .ok (acc ++ cs.toArray) w
  | 0, o, i, acc, cs, hl, hc => by
    have : cs = [] := List.eq_nil_of_length_eq_zero hl
    subst this
    simp [loadCellsFrom]
  | n + 1, o, i, acc, [], hl, hc => by simp at hl
  | n + 1, o, i, acc, c :: cs, hl, hc => by
    have h0 := hc 0 c rfl
    have ih := run_loadCellsFrom b n o (i + 1) (acc.push c) cs (by simpa using hl) (fun j v hj => by
      have := hc (j + 1) v (by simpa using hj)
      rw [← this]; congr 2; omega)
    simp only [loadCellsFrom, load, Sem.run_bind, Sem.run, add_at]
    simp only [Nat.add_zero] at h0
    rw [h0]
    simp only [Result.andThen]
    rw [ih]
    simp
theorem run_loadCells {b o n : Nat} {cs : List Value} (hl : cs.length = n) (hc : Cells w b o cs) : (loadCells ⟨b, o, none⟩ n).run P w = .ok cs.toArray w := by
  have := run_loadCellsFrom (P := P) b n o 0 #[] cs hl (by simpa using hc)
  simpa [loadCells] using this
theorem run_loadVar_agg {t : TypeId} {b o n : Nat} {cs : List Value} (ha : aggOf P t = some true) (hn : szOf P t = some n) (hl : cs.length = n) (hc : Cells w b o cs) :
    (loadVar t ⟨b, o, none⟩).run P w = .ok (.agg cs.toArray) w := by
  simp [loadVar, run_isAgg ha, run_size hn, run_loadCells hl hc, Result.andThen]
theorem run_loadVar_one {t : TypeId} {b o : Nat} {c : Value} (ha : aggOf P t = some false) (hc : Cells w b o [c]) :
    (loadVar t ⟨b, o, none⟩).run P w = .ok c w := by
  have h0 := hc 0 c rfl
  simp only [Nat.add_zero] at h0
  simp [loadVar, run_isAgg ha, load, Sem.run, h0, Result.andThen]
end
end Go.Ge
