/- The check that an instruction says what an operation does, and that it then does. -/
import Derived.Test.YtneeobmefioenaaGeOne13
import Derived.Laws.Cover3
namespace Go.Ge
open Go Go.RowKit

def kEq (a b : IntKind) : Bool := decide (a = b)
def optB {α : Type} (o : Option α) (f : α → Bool) : Bool := match o with | some x => f x | none => false
theorem optB_eq {α : Type} {o : Option α} {f : α → Bool} (h : optB o f = true) : ∃ x, o = some x ∧ f x = true := by
  cases o with
  | none => simp [optB] at h
  | some x => exact ⟨x, rfl, h⟩
def szIs (P : Program) (t n : Nat) : Bool := match szOf P t with | some m => Nat.beq m n | none => false
theorem szIs_eq {P : Program} {t n : Nat} (h : szIs P t n = true) : szOf P t = some n := by
  unfold szIs at h; split at h
  · simp only [Nat.beq_eq] at h; subst h; assumption
  · simp at h
def agIs (P : Program) (t : Nat) (b : Bool) : Bool := match aggOf P t with | some c => c == b | none => false
theorem agIs_eq {P : Program} {t : Nat} {b : Bool} (h : agIs P t b = true) : aggOf P t = some b := by
  unfold agIs at h; split at h
  · simp only [beq_iff_eq] at h; subst h; assumption
  · simp at h
def listEq : List Nat → List Nat → Bool
  | [], [] => true
  | a :: r, b :: s => Nat.beq a b && listEq r s
  | _, _ => false
theorem listEq_eq : ∀ {l m : List Nat}, listEq l m = true → l = m
  | [], [], _ => rfl
  | a :: r, b :: s, h => by simp only [listEq, Bool.and_eq_true, Nat.beq_eq] at h; rw [h.1, listEq_eq h.2]
  | [], _ :: _, h => by simp [listEq] at h
  | _ :: _, [], h => by simp [listEq] at h
def isEq (op : BinOp) : Bool := match op with | .eql => true | .neq => true | _ => false
theorem post_buf {w1 : World} {B : Nat → Prop} {M : Nat → Option Blk} {σ : Nat → Slot} {w w' : World} {d : Nat} (sm : Sm w1 B M σ w) (hB : Below w.heap.size w w') {blk cap : Nat} (h1 : w.heap.size ≤ blk) (h2 : blk < w'.heap.size) {t : Ty} {cs : List Value} {e : TypeId}
    (hh : w'.heap[blk]? = some (.cells cs.toArray e (0, 0))) (hsz : cap * tsize t ≤ cs.length) : Post w1 B M σ w d { new := some (.buf t) } (.bs d) (.slice (some ⟨blk, 0, none⟩) 0 cap) w' := by
  intro hfree hmen
  obtain ⟨s, L⟩ := sm.new hB d ⟨blk, some ⟨blk, 0, none⟩, 0, cap, #[], none⟩ (.buf t) (fun _ => ⟨h1, h2⟩) (fun k b e h => hfree rfl k b e h) (fun L => by
    refine ⟨cs, e, cap, ?_, ?_, hsz⟩
    · simp only [cx, up_same]; exact hh
    · simp [cx, up_same, Slot.sv])
  refine ⟨_, s, L, fun k => ?_, ?_⟩
  · by_cases h : k = d
    · exact .inr ⟨rfl, h⟩
    · exact .inl (up_ne _ _ h)
  · have := VR.bs (c := cx B (effM d { new := some (.buf t) } M) (up σ d ⟨blk, some ⟨blk, 0, none⟩, 0, cap, #[], none⟩) w') d
    simpa [cx, up_same, Slot.sv] using this
def nilOp (op : BinOp) (neq : Bool) : Bool := match op with | .eql => !neq | .neq => neq | _ => false
/-- An instruction, held against its operation. -/
def instOk0 (P : Program) (o : Oper) (i : I) : Bool :=
  match i, o.op with
  | .nope, _ => true
  | .mv y, .move x => opdOk x y
  | .mv y, .assign x => opdOk x y
  | .pick c' x' y', .pick c x y => opdOk c c' && opdOk x x' && opdOk y y'
  | .al zs, .alloc e => optB (P.info? e) fun i => optB i.zero fun z => scsOk z.cells.toList zs
  | .bx y, .box _ x => opdOk x y
  | .bd zs ps, .build t parts => optB (P.info? t) fun it => optB it.zero fun z => scsOk z.cells.toList zs && optB (plOf P t) fun pf => partsOk pf parts.toList ps
  | .bsl ty _ ps, .buildSlice t len parts => (match P.underlying t with | some (.slice e) => optB (P.info? e) fun it => it.zero.isSome && Nat.beq it.size (tsize ty) | _ => false) && Nat.ble (len * tsize ty) 16777216 && Nat.beq parts.toList.length len && bslOk 0 parts.toList ps
  | .ld m ag y, .load t x => opdOk x y && agIs P t ag && szIs P t m
  | .st m p' x', .store t p x => opdOk p p' && opdOk x x' && szIs P t m
  | .bin op' ag ls x' y', .binOp op t x y _ => decide (op = op') && opdOk x x' && opdOk y y' && (!isEq op || (optB (eqLv P 20 t) (fun l => listEq l ls) && agIs P t ag && !P.eqGuardType P.depth t))
  | .un op' y, .unOp op _ x => decide (op = op') && opdOk x y
  | .cv kd y, .convert s t x => opdOk x y && (match P.underlying s with | some (.int _) => true | _ => false) && (match P.underlying t with | some (.int k) => kEq k kd | _ => false)
  | .mf f' cs, .makeFunc fn first caps => (match fn with | .func f => Nat.beq f f' | _ => false) && Nat.beq first.size 0 && opdsOk caps.toList cs
  | .fa off y, .fieldAddr t x f => opdOk x y && (match P.underlying t with | some (.struct fs) => optB fs[f]? fun fl => Nat.beq fl.offset off && optB (szOf P fl.type) fun m => !Nat.beq m 0 | _ => false)
  | .fd off m ag y, .field t x f => opdOk x y && (match P.underlying t with | some (.struct fs) => optB fs[f]? fun fl => Nat.beq fl.offset off && szIs P fl.type m && agIs P fl.type ag | _ => false)
  | .ixs m x' i', .indexAddr t x i => opdOk x x' && opdOk i i' && (match P.underlying t with | some (.slice e) => szIs P e m | _ => false)
  | .ixp len m x' i', .indexAddr t x i => opdOk x x' && opdOk i i' && (match P.underlying t with | some (.array l e) => Nat.beq l len && szIs P e m | _ => false)
  | .ixv len m ag x' i', .index t x i => opdOk x x' && opdOk i i' && (match P.underlying t with | some (.array l e) => Nat.beq l len && szIs P e m && agIs P e ag | _ => false)
  | .slc m y lo' hi' mx', .slice t x lo hi mx => opdOk x y && opdoOk lo lo' && opdoOk hi hi' && opdoOk mx mx' && (!mx'.isSome || hi'.isSome) && (match P.underlying t with | some (.slice e) => szIs P e m | _ => false)
  | .sla ty m y, .slice t x lo hi mx => opdOk x y && lo.isNone && hi.isNone && mx.isNone && (match P.underlying t with | some (.array l e) => Nat.beq l m && szIs P e (tsize ty) | _ => false)
  | .s2a m y, .sliceToArrayPointer t x => opdOk x y && !Nat.beq m 0 && (match P.underlying t with | some (.array l _) => Nat.beq l m | _ => false)
  | .ex y j', .extract x j => opdOk x y && Nat.beq j j'
  | .nck y, .nilCheck x => opdOk x y
  | .inil neq x', .binOp op t x y _ => opdOk x x' && nilOp op neq && (match y with | .const (.slice none 0 0) => true | _ => false) && (match P.underlying t with | some (.slice _) => true | _ => false)
  | .mkm _ _ _ _, .makeMap _ r => r.isNone
  | .mpu ag ls m' x' y', .mapUpdate t m x y => opdOk m m' && opdOk x x' && opdOk y y' && (match P.underlying t with | some (.map kt _) => optB (eqLv P 20 kt) (fun l => listEq l ls) && agIs P kt ag | _ => false)
  | .rng y, .range t x => opdOk x y && (match P.underlying t with | some (.map _ _) => true | _ => false)
  | .nxt y, .next x s => opdOk x y && !s
  | .ent y, .entry x => opdOk x y
  | .srt f x' y', .call c => (match c.callee with | .value (.func g) => Nat.beq f g | _ => false) && (match c.args.toList with | [x, y] => opdOk x x' && opdOk y y' | _ => false)
  | .grow f _ y', .call c => (match c.callee with | .value (.func g) => Nat.beq f g | _ => false) && (match c.args.toList with | [.const (.slice none 0 0), y] => opdOk y y' | _ => false)
  | .call x' ys, .call c => (match c.callee with | .value x => opdOk x x' | _ => false) && opdsOk c.args.toList ys
  | .len str y, .call c => (match c.callee with | .builtin .len => true | _ => false) && (match c.args.toList with | [x] => opdOk x y | _ => false) && optB c.argTypes[0]? fun t => (match P.underlying t, str with | some .string, true => true | some (.slice _), false => true | _, _ => false)
  | .mx l, .call c => (match c.callee with | .builtin .max => true | _ => false) && opdsOk c.args.toList l
  | .mn l, .call c => (match c.callee with | .builtin .min => true | _ => false) && opdsOk c.args.toList l
  | .app ty bd x' y', .call c => (match c.callee with | .builtin .append => true | _ => false) && (match c.args.toList with | [x, y] => opdOk x x' && opdOk y y' | _ => false) &&
      (match c.argTypes[0]?, c.argTypes[1]? with | some t, some t2 => (match P.underlying t, P.underlying t2 with | some (.slice e), some (.slice _) => optB (P.info? e) fun i => Nat.beq i.size (tsize ty) && (optB i.zero fun z => Nat.beq z.cells.size i.size) && Nat.ble (bd * i.bytes) 140737488355328 | _, _ => false) | _, _ => false) && Nat.ble bd 70368744177664
  | _, _ => false

section
variable {R : Type} {H : Hk R} {r : R} {k : V → Eff → Option R} {P : Program} {F : Fence} {n : Nat} {w1 : World} {B : Nat → Prop} {M : Nat → Option Blk} {σ : Nat → Slot} {w : World} {a : Act} {o : Oper} {d : Nat} {E : Nat → Option V}
/-- slices.Grow at nil. -/
theorem one_grow (hF : Open F) (HC : Law P H r) (sm : Sm w1 B M σ w) (en : EnvR (cx B M σ w) E a) {c : Call} {f : Nat} {t : Ty} {y : Operand} {y' : Opd} (ho : o.op = .call c) (hc : c.callee = .value (.func f)) (ha : c.args = #[.const (.slice none 0 0), y]) (hy : opdOk y y' = true)
    (h : evI H (.grow f t y') d E M k = some r) : Snd r k P F n w1 B M σ w a o d := by
  simp only [evI] at h
  split at h
  · rename_i nn hn
    have ey := (opd_sound en hy hn).i_inv
    simp only [cond_eq_ite] at h
    split at h
    · rename_i hg
      have hco := HC.grow f t nn hg
      obtain ⟨fn, hfn, hname, hbody⟩ := hco.enters
      intro K Q hK
      have hrun : (execOp a.eval o).run P w = .ok (.enter f #[.slice none 0 0, .int .i64 nn]) w := by
        have e0 : a.eval (.const (.slice none 0 0)) = .slice none 0 0 := rfl
        have e1 : a.eval (.func f) = .func (.func f) #[] #[] := rfl
        have e2 : c.args.map a.eval = #[.slice none 0 0, .int .i64 nn] := by rw [ha]; simp [e0, ey]
        simp only [execOp, ho, resolve, hc, e1, e2, Deferred.ofValue, Sem.run_bind, Sem.run_pure, Result.andThen_ok, invoke, callFunc, run_program, hfn, hname, hbody]
        simp
      refine ⟨fun f _ => hF.fn f, ?_⟩
      rw [semAt_exec (by simp [ho]), hrun, Oper.uponIn_enter]
      refine ⟨fun h => by rw [hF.depth] at h; simp at h, (hF.calls (hco.calls w (n - 1))).mono fun e w' => ?_⟩
      rintro ⟨hbelow, a2, cap, rfl, h0, h1⟩
      cases nn with
      | zero =>
        have := h0 rfl
        subst this
        exact hK _ _ _ w' h (post_row_nil sm hbelow)
      | succ m =>
        obtain ⟨blk, cs, et, rfl, q1, q2, q3, q4⟩ := h1 (Nat.succ_pos m)
        exact hK _ _ _ w' h (post_buf sm hbelow q1 q2 q3 q4)
    · simp at h
  · simp at h
/-- A slice, held against nil. -/
theorem one_inil (hF : ∀ f, F.fn f) (HC : Law P H r) (sm : Sm w1 B M σ w) (en : EnvR (cx B M σ w) E a) {op : BinOp} {neq : Bool} {t yt e : TypeId} {x : Operand} {x' : Opd} (ho : o.op = .binOp op t x (.const (.slice none 0 0)) yt) (hx : opdOk x x' = true)
    (hop : nilOp op neq = true) (ht : P.underlying t = some (.slice e)) (h : evI H (.inil neq x') d E M k = some r) : Snd r k P F n w1 B M σ w a o d := by
  simp only [evI] at h
  split at h
  · rename_i xv hxv
    obtain ⟨ty, l, bor, a', cap, hk, ex, hcap, hl⟩ := row_inv sm (opd_sound en hx hxv) h
    have run : (execOp a.eval o).run P w = .ok (.value (.bool (if neq then !a'.isNone else a'.isNone))) w := by
      cases op <;> simp only [nilOp] at hop <;> (try (simp at hop; done))
      · simp only [Bool.not_eq_true'] at hop
        subst hop
        have e0 : a.eval (.const (.slice none 0 0)) = .slice none 0 0 := rfl
        simp only [execOp, ho, Sem.run_bind, ex, e0]
        simp [eqGuard, binOp, run_equal_slice_nil w t e a' l.length cap ht]
      · subst hop
        have e0 : a.eval (.const (.slice none 0 0)) = .slice none 0 0 := rfl
        simp only [execOp, ho, Sem.run_bind, ex, e0]
        simp [eqGuard, binOp, run_equal_slice_nil w t e a' l.length cap ht]
    split at hk
    · have hj := HC.join _ hk
      cases hb : (if neq then !a'.isNone else a'.isNone) with
      | true => exact Snd.pure hF (by simp [ho]) sm (hj _ (by simp)) (by rw [run, hb]) (.b true)
      | false => exact Snd.pure hF (by simp [ho]) sm (hj (k (.b false) {}) (by simp)) (by rw [run, hb]) (.b false)
    · have ha : a'.isNone = false := by
        rcases hl with hl | ⟨blk, off, cs, e1, -⟩
        · simp at hl
        · rw [e1]; rfl
      have hb : (if neq then !a'.isNone else a'.isNone) = neq := by rw [ha]; cases neq <;> rfl
      exact Snd.pure hF (by simp [ho]) sm hk (by rw [run, hb]) (.b neq)
  · simp at h
end
section
variable {R : Type} {H : Hk R} {r : R} {k : V → Eff → Option R} {P : Program} {F : Fence} {n : Nat} {w1 : World} {B : Nat → Prop} {M : Nat → Option Blk} {σ : Nat → Slot} {w : World} {a : Act} {o : Oper} {d : Nat} {E : Nat → Option V}
theorem inst_sound0 (hF : Open F) (HC : Law P H r) (sm : Sm w1 B M σ w) (en : EnvR (cx B M σ w) E a) {i : I} (hok : instOk0 P o i = true) (h : evI H i d E M k = some r) :
    Snd r k P F n w1 B M σ w a o d := by
  have hf := hF.fn
  unfold instOk0 at hok
  split at hok
  · simp [evI] at h
  · rename_i ho; exact one_mv hf sm en (.inl ho) hok h
  · rename_i ho; exact one_mv hf sm en (.inr ho) hok h
  · rename_i ho
    simp only [Bool.and_eq_true] at hok
    exact one_pick hf sm en ho hok.1.1 hok.1.2 hok.2 h
  · rename_i ho
    obtain ⟨it, hi, hok⟩ := optB_eq hok
    obtain ⟨z, hz, hok⟩ := optB_eq hok
    exact one_al hf sm ho hi hz hok h
  · rename_i ho; exact one_bx hf sm en ho hok h
  · rename_i ho
    obtain ⟨it, hi, hok⟩ := optB_eq hok
    obtain ⟨z, hz, hok⟩ := optB_eq hok
    simp only [Bool.and_eq_true] at hok
    obtain ⟨pf, hpf, hps⟩ := optB_eq hok.2
    exact one_bd hf sm en ho hi hz hok.1 hpf hps h
  · rename_i ho
    simp only [Bool.and_eq_true, Nat.ble_eq, Nat.beq_eq] at hok
    obtain ⟨⟨⟨h1, h2⟩, h3⟩, h4⟩ := hok
    split at h1
    · rename_i e hu
      obtain ⟨it, hi, h1⟩ := optB_eq h1
      simp only [Bool.and_eq_true, Nat.beq_eq] at h1
      obtain ⟨z, hz⟩ := Option.isSome_iff_exists.1 h1.1
      exact one_bsl hf sm en ho hu hi hz h1.2 h2 h3 h4 h
    · simp at h1
  · rename_i ho
    simp only [Bool.and_eq_true] at hok
    exact one_ld hf sm en ho hok.1.1 (agIs_eq hok.1.2) (szIs_eq hok.2) h
  · rename_i ho
    simp only [Bool.and_eq_true] at hok
    exact one_st hf sm en ho hok.1.1 hok.1.2 (szIs_eq hok.2) h
  · rename_i op _ _ _ _ op0 _ _ _ _ ho
    simp only [Bool.and_eq_true, decide_eq_true_eq] at hok
    obtain ⟨⟨⟨h1, h2⟩, h3⟩, h4⟩ := hok
    subst h1
    refine one_bin hf sm en ho h2 h3 (D := 20) (fun hop => ?_) h
    have he : isEq op0 = true := by rcases hop with hop | hop <;> rw [hop] <;> rfl
    rw [he] at h4
    simp only [Bool.not_true, Bool.false_or, Bool.and_eq_true, Bool.not_eq_true'] at h4
    obtain ⟨⟨h5, h6⟩, h7⟩ := h4
    obtain ⟨l, hl, h5⟩ := optB_eq h5
    rw [listEq_eq h5] at hl
    exact ⟨by omega, hl, agIs_eq h6, h7⟩
  · rename_i ho
    simp only [Bool.and_eq_true, decide_eq_true_eq] at hok
    obtain ⟨rfl, h2⟩ := hok
    exact one_un hf sm en ho h2 h
  · rename_i ho
    simp only [Bool.and_eq_true] at hok
    obtain ⟨⟨h1, h2⟩, h3⟩ := hok
    split at h2
    · rename_i ks hs
      split at h3
      · rename_i kd2 hd
        simp only [kEq, decide_eq_true_eq] at h3
        subst h3
        exact one_cv hf sm en ho h1 hs hd h
      · simp at h3
    · simp at h2
  · rename_i ho
    simp only [Bool.and_eq_true, Nat.beq_eq] at hok
    obtain ⟨⟨h1, h2⟩, h3⟩ := hok
    split at h1
    · simp only [Nat.beq_eq] at h1
      subst h1
      exact one_mf hf sm en ho h2 h3 h
    · simp at h1
  · rename_i ho
    simp only [Bool.and_eq_true] at hok
    obtain ⟨h1, h2⟩ := hok
    split at h2
    · rename_i fs hu
      obtain ⟨fl, hfl, h2⟩ := optB_eq h2
      simp only [Bool.and_eq_true, Nat.beq_eq] at h2
      obtain ⟨m, hm, h3⟩ := optB_eq h2.2
      exact one_fa hf sm en ho h1 hu hfl hm (by intro h0; subst h0; simp at h3) h2.1 h
    · simp at h2
  · rename_i ho
    simp only [Bool.and_eq_true] at hok
    obtain ⟨h1, h2⟩ := hok
    split at h2
    · rename_i fs hu
      obtain ⟨fl, hfl, h2⟩ := optB_eq h2
      simp only [Bool.and_eq_true, Nat.beq_eq] at h2
      exact one_fd hf sm en ho h1 hu hfl (agIs_eq h2.2) (szIs_eq h2.1.2) h2.1.1 h
    · simp at h2
  · rename_i ho
    simp only [Bool.and_eq_true] at hok
    obtain ⟨⟨h1, h2⟩, h3⟩ := hok
    split at h3
    · rename_i e hu; exact one_ixs hf sm en ho h1 h2 hu (szIs_eq h3) h
    · simp at h3
  · rename_i ho
    simp only [Bool.and_eq_true] at hok
    obtain ⟨⟨h1, h2⟩, h3⟩ := hok
    split at h3
    · rename_i l e hu
      simp only [Bool.and_eq_true, Nat.beq_eq] at h3
      obtain ⟨rfl, h4⟩ := h3
      exact one_ixp hf sm en ho h1 h2 hu (szIs_eq h4) h
    · simp at h3
  · rename_i ho
    simp only [Bool.and_eq_true] at hok
    obtain ⟨⟨h1, h2⟩, h3⟩ := hok
    split at h3
    · rename_i l e hu
      simp only [Bool.and_eq_true, Nat.beq_eq] at h3
      obtain ⟨⟨rfl, h4⟩, h5⟩ := h3
      exact one_ixv hf sm en ho h1 h2 hu (agIs_eq h5) (szIs_eq h4) h
    · simp at h3
  · rename_i ho
    simp only [Bool.and_eq_true] at hok
    obtain ⟨⟨⟨⟨⟨h1, h2⟩, h3⟩, h4⟩, h5⟩, h6⟩ := hok
    split at h6
    · rename_i e hu
      exact one_slc hf sm en ho h1 h2 h3 h4 (fun hh => by rw [hh] at h5; simpa using h5) hu (szIs_eq h6) h
    · simp at h6
  · rename_i lo hi mx ho
    simp only [Bool.and_eq_true, Option.isNone_iff_eq_none] at hok
    obtain ⟨⟨⟨⟨h1, rfl⟩, rfl⟩, rfl⟩, h5⟩ := hok
    split at h5
    · rename_i l e hu
      simp only [Bool.and_eq_true, Nat.beq_eq] at h5
      obtain ⟨rfl, h6⟩ := h5
      exact one_sla hf sm en ho h1 hu (szIs_eq h6) h
    · simp at h5
  · rename_i ho
    simp only [Bool.and_eq_true, Bool.not_eq_true'] at hok
    obtain ⟨⟨h1, h2⟩, h3⟩ := hok
    split at h3
    · rename_i l e hu
      simp only [Nat.beq_eq] at h3
      subst h3
      exact one_s2a hf sm en ho h1 hu (by intro h0; subst h0; simp at h2) h
    · simp at h3
  · rename_i ho
    simp only [Bool.and_eq_true, Nat.beq_eq] at hok
    obtain ⟨h1, rfl⟩ := hok
    exact one_ex hf sm en ho h1 h
  · rename_i ho; exact one_nck hf sm en ho hok h
  · rename_i ho
    simp only [Bool.and_eq_true] at hok
    obtain ⟨⟨⟨h1, h2⟩, h3⟩, h4⟩ := hok
    split at h3
    · split at h4
      · rename_i e hu
        exact one_inil hf HC sm en ho h1 h2 hu h
      · simp at h4
    · simp at h3
  · rename_i rr ho
    cases rr with
    | none => exact one_mkm hf sm ho h
    | some _ => simp at hok
  · rename_i ho
    simp only [Bool.and_eq_true] at hok
    obtain ⟨⟨⟨h1, h2⟩, h3⟩, h4⟩ := hok
    split at h4
    · rename_i kt vt hu
      simp only [Bool.and_eq_true] at h4
      obtain ⟨h5, h6⟩ := h4
      obtain ⟨l, hl, h5⟩ := optB_eq h5
      rw [listEq_eq h5] at hl
      exact one_mpu hf sm en ho h1 h2 h3 hu hl (by omega) (agIs_eq h6) h
    · simp at h4
  · rename_i ho
    simp only [Bool.and_eq_true] at hok
    obtain ⟨h1, h2⟩ := hok
    split at h2
    · rename_i hu; exact one_rng hf sm en ho h1 hu h
    · simp at h2
  · rename_i s ho
    simp only [Bool.and_eq_true, Bool.not_eq_true'] at hok
    obtain ⟨h1, rfl⟩ := hok
    exact one_nxt hf HC sm en ho h1 h
  · rename_i ho; exact one_ent hf sm en ho hok h
  · rename_i c ho
    simp only [Bool.and_eq_true] at hok
    obtain ⟨h1, h2⟩ := hok
    split at h1
    · rename_i g hc
      simp only [Nat.beq_eq] at h1
      subst h1
      split at h2
      · rename_i x y hx
        simp only [Bool.and_eq_true] at h2
        exact one_srt hF HC sm en ho hc (by apply Array.ext'; simpa using hx) h2.1 h2.2 h
      · simp at h2
    · simp at h1
  · rename_i c ho
    simp only [Bool.and_eq_true] at hok
    obtain ⟨h1, h2⟩ := hok
    split at h1
    · rename_i g hc
      simp only [Nat.beq_eq] at h1
      subst h1
      split at h2
      · rename_i y hx
        exact one_grow hF HC sm en ho hc (by apply Array.ext'; simpa using hx) h2 h
      · simp at h2
    · simp at h1
  · rename_i ho
    simp only [Bool.and_eq_true] at hok
    obtain ⟨h1, h2⟩ := hok
    split at h1
    · rename_i x hc; exact one_call hF HC sm en ho hc h1 h2 h
    · simp at h1
  · rename_i c ho
    simp only [Bool.and_eq_true] at hok
    obtain ⟨⟨h1, h2⟩, h3⟩ := hok
    split at h1
    · rename_i hc
      split at h2
      · rename_i x hx
        obtain ⟨t, ht, h3⟩ := optB_eq h3
        refine one_len hf sm en ho hc (by apply Array.ext'; simpa using hx) ht ?_ h2 h
        split at h3
        · rename_i hu _; exact ⟨fun _ => hu, fun hh => by simp at hh⟩
        · rename_i hu _; exact ⟨fun hh => by simp at hh, fun _ => ⟨_, hu⟩⟩
        · simp at h3
      · simp at h2
    · simp at h1
  · rename_i ho
    simp only [Bool.and_eq_true] at hok
    obtain ⟨h1, h2⟩ := hok
    split at h1
    · rename_i hc; exact one_mx hf sm en ho hc h2 h
    · simp at h1
  · rename_i ho
    simp only [Bool.and_eq_true] at hok
    obtain ⟨h1, h2⟩ := hok
    split at h1
    · rename_i hc; exact one_mn hf sm en ho hc h2 h
    · simp at h1
  · rename_i c ho
    simp only [Bool.and_eq_true, Nat.ble_eq] at hok
    obtain ⟨⟨⟨h1, h2⟩, h3⟩, h4⟩ := hok
    split at h1
    · rename_i hc
      split at h2
      · rename_i x y hx
        simp only [Bool.and_eq_true] at h2
        split at h3
        · rename_i t t2 ht ht2
          split at h3
          · rename_i e e2 hu hu2
            obtain ⟨it, hi, h3⟩ := optB_eq h3
            simp only [Bool.and_eq_true, Nat.ble_eq, Nat.beq_eq] at h3
            obtain ⟨⟨h5, h6⟩, h7⟩ := h3
            obtain ⟨z, hz, h6⟩ := optB_eq h6
            simp only [Nat.beq_eq] at h6
            exact one_app hf sm en ho hc (by apply Array.ext'; simpa using hx) ht ht2 hu hu2 hi hz h5 h6 h7 h4 h2.1 h2.2 h
          · simp at h3
        · simp at h3
      · simp at h2
    · simp at h1
  · simp at hok
end
def unAv : I → I
  | .sta n p x _ => .st n p x
  | i => i
def instOk (P : Program) (o : Oper) (i : I) : Bool := instOk0 P o (unAv i)
theorem unAv_ev {R : Type} {H : Hk R} {r : R} {i : I} {d : Nat} {E : Nat → Option V} {M : Nat → Option Blk} {k : V → Eff → Option R} (h : evI H i d E M k = some r) : evI H (unAv i) d E M k = some r := by
  cases i
  case sta n p x av =>
    simp only [unAv, evI] at h ⊢
    split at h
    · split at h
      · split at h
        · simp only [cond_eq_ite] at h
          split at h
          · exact h
          · simp at h
        · simp at h
      · simp at h
    · simp at h
  all_goals exact h
theorem inst_sound {R : Type} {H : Hk R} {r : R} {k : V → Eff → Option R} {P : Program} {F : Fence} {n : Nat} {w1 : World} {B : Nat → Prop} {M : Nat → Option Blk} {σ : Nat → Slot} {w : World} {a : Act} {o : Oper} {d : Nat} {E : Nat → Option V}
    (hF : Open F) (HC : Law P H r) (sm : Sm w1 B M σ w) (en : EnvR (cx B M σ w) E a) {i : I} (hok : instOk P o i = true) (h : evI H i d E M k = some r) : Snd r k P F n w1 B M σ w a o d :=
  inst_sound0 hF HC sm en hok (unAv_ev h)
end Go.Ge
