/- Arrays as slices; append. -/
import Derived.Test.YtneeobmefioenaaGeOne5
import Derived.Laws.AppendOwn
namespace Go.Ge
open Go Go.RowKit

theorem chunk_sound {c : Cx} {bor : Bool} {t : Ty} : ∀ {n : Nat} {l : List V} {l' : List Value} {xs : List (T t)}, chunk t n l = some xs → VRs c l l' → (∀ y, y ∈ l → borV 5 y = true → bor = true) → VRs c (xs.flatMap (unpack bor t)) l' ∧ xs.length = n
  | 0, [], l', xs, h, hv, hb => by simp [chunk] at h; subst h; exact ⟨by simpa using hv, rfl⟩
  | 0, _ :: _, l', xs, h, hv, hb => by simp [chunk] at h
  | n + 1, l, l', xs, h, hv, hb => by
    simp only [chunk] at h
    split at h
    · rename_i x r hx
      split at h
      · rename_i ys hys
        simp only [Option.some.injEq] at h
        subst h
        obtain ⟨l1, l2, rfl, h1, h2, h3⟩ := pack_sound t hx hv hb
        obtain ⟨h4, h5⟩ := chunk_sound hys h2 fun y hy => hb y (h3 y hy)
        exact ⟨by simpa using h1.append h4, by simp [h5]⟩
      · simp at h
    · simp at h

/-- Where a slice's cells lie. -/
def Lies (w : World) (a : Option Addr) (n size : Nat) (cs : List Value) : Prop := cs.length = n * size ∧ (n = 0 ∨ ∃ blk off, a = some ⟨blk, off, none⟩ ∧ Cells w blk off cs)
theorem run_first {P : Program} {w : World} {a : Option Addr} {n size len cap : Nat} {cs : List Value} (h : Lies w a n size cs) : (Builtin.firstCells size n (.slice a len cap)).run P w = .ok cs.toArray w := by
  obtain ⟨hl, rfl | ⟨blk, off, rfl, hc⟩⟩ := h
  · have : cs = [] := List.eq_nil_of_length_eq_zero (by simpa using hl)
    subst this
    cases a with
    | none => simp [Builtin.firstCells]
    | some a => simp [Builtin.firstCells, loadCells, loadCellsFrom]
  · simp only [Builtin.firstCells]
    exact run_loadCells hl hc
theorem Lies.drew {w : World} {a : Option Addr} {n size : Nat} {cs : List Value} (h : Lies w a n size cs) : Lies w.drew a n size cs := h
/-- An append that finds no room. -/
theorem run_grow {P : Program} {w : World} {ats : Array TypeId} {t t2 ty e e2 : TypeId} {i : TypeInfo} {z : Value} (h0 : ats[0]? = some t) (h1 : ats[1]? = some t2) (ht : P.underlying t = some (.slice e)) (ht2 : P.underlying t2 = some (.slice e2)) (hi : P.info? e = some i) (hz : i.zero = some z)
    {a b : Option Addr} {n cn m cm : Nat} {olds news : List Value} (ha : Lies w a n i.size olds) (hb : Lies w b m i.size news) (hg : cn < n + m) (h63 : n + m ≤ 9223372036854775807) (hb48 : (n + m) * i.bytes ≤ 140737488355328) :
    (Builtin.append_ ats ty #[.slice a n cn, .slice b m cm]).run P w =
      .ok (.slice (some ⟨w.heap.size, 0, none⟩) (n + m) (grownCap w (n + m) cn e)) (w.drew.alloc (.cells (olds ++ news ++ (Builtin.zeroCells z.cells (grownCap w (n + m) cn e - (n + m))).toList).toArray e)) := by
  have hn : ¬ (n + m ≤ cn) := by omega
  have h63' : ¬ (9223372036854775807 < ((n : Int) + (m : Int))) := by omega
  have h48' : ¬ (281474976710656 < Builtin.nextslicecap (n + m) cn * i.bytes) := by
    have := growslice_fits hg hb48
    omega
  have hfo := run_first (P := P) (len := n) (cap := cn) ha.drew
  have hf := run_first (P := P) (len := m) (cap := cm) hb.drew
  simp [Builtin.append_, h0, h1, run_und ht, run_und ht2, sizeOf, run_info hi, zeroValue, hz, Builtin.lenOf, hn, h63', h48', Question.forced, hf, hfo, newRow, grownCap]
  congr 2
  apply Array.ext'
  simp [List.append_assoc]
/-- One that finds room. -/
theorem run_room {P : Program} {w : World} {ats : Array TypeId} {t t2 ty e e2 : TypeId} {i : TypeInfo} (h0 : ats[0]? = some t) (h1 : ats[1]? = some t2) (ht : P.underlying t = some (.slice e)) (ht2 : P.underlying t2 = some (.slice e2)) (hi : P.info? e = some i)
    {blk n cn m cm : Nat} {b : Option Addr} {arr : Array Value} {et : TypeId} {news : List Value} (hh : w.heap[blk]? = some (.cells arr et (0, 0))) (hb : Lies w b m i.size news) (hp : ∀ v, v ∈ news → plain v) (hg : n + m ≤ cn) (hfit : n * i.size + news.length ≤ arr.size) :
    (Builtin.append_ ats ty #[.slice (some ⟨blk, 0, none⟩) n cn, .slice b m cm]).run P w = .ok (.slice (some ⟨blk, 0, none⟩) (n + m) cn) (storeL w blk (n * i.size) news) := by
  have hf := run_first (P := P) (len := m) (cap := cm) hb
  have hs := run_storeCells (P := P) (o := n * i.size) (i := 0) hp hh (by omega)
  simp only [Nat.add_zero] at hs
  simp [Builtin.append_, h0, h1, run_und ht, run_und ht2, sizeOf, run_info hi, Builtin.lenOf, hg, hf, add_at, hs]
/-- One of nothing. -/
theorem run_nothing {P : Program} {w : World} {ats : Array TypeId} {t t2 ty e e2 : TypeId} {i : TypeInfo} (h0 : ats[0]? = some t) (h1 : ats[1]? = some t2) (ht : P.underlying t = some (.slice e)) (ht2 : P.underlying t2 = some (.slice e2)) (hi : P.info? e = some i)
    {a b : Option Addr} {n cn cm : Nat} (hg : n ≤ cn) :
    (Builtin.append_ ats ty #[.slice a n cn, .slice b 0 cm]).run P w = .ok (.slice a n cn) w := by
  have hf := run_first (P := P) (w := w) (a := b) (n := 0) (size := i.size) (len := 0) (cap := cm) (cs := []) ⟨by simp, .inl rfl⟩
  cases a <;> simp [Builtin.append_, h0, h1, run_und ht, run_und ht2, sizeOf, run_info hi, Builtin.lenOf, hg, hf, storeCells]

section
variable {B : Nat → Prop} {M : Nat → Option Blk} {σ : Nat → Slot} {w1 w w' : World} {d : Nat}
/-- A row in a new block. -/
theorem post_row (sm : Sm w1 B M σ w) (hB : Below w.heap.size w w') {blk cap : Nat} (h1 : w.heap.size ≤ blk) (h2 : blk < w'.heap.size) {t : Ty} {l : List (T t)} {cs' rest : List Value} {e : TypeId}
    (hh : w'.heap[blk]? = some (.cells (cs' ++ rest).toArray e (0, 0))) (hv : VRs (cx B M σ w) (l.flatMap (unpack false t)) cs') (hl : l.length ≤ cap) (hne : l ≠ []) (hsz : cap * tsize t ≤ (cs' ++ rest).length) :
    Post w1 B M σ w d { new := some (.row t l) } (.bs d) (.slice (some ⟨blk, 0, none⟩) l.length cap) w' := by
  intro hfree hmen
  obtain ⟨s, L⟩ := sm.new hB d ⟨blk, some ⟨blk, 0, none⟩, l.length, cap, #[], none⟩ (.row t l) (fun _ => ⟨h1, h2⟩) (fun k b e h => hfree rfl k b e h) (fun L => by
    cases l with
    | nil => exact absurd rfl hne
    | cons x r =>
      refine ⟨cs', rest, e, cap, ?_, rowVals_later L hv, ?_, hl, hsz⟩
      · simp only [cx, up_same]; exact hh
      · simp [cx, up_same, Slot.sv])
  refine ⟨_, s, L, fun k => ?_, ?_⟩
  · by_cases h : k = d
    · exact .inr ⟨rfl, h⟩
    · exact .inl (up_ne _ _ h)
  · have := VR.bs (c := cx B (effM d { new := some (.row t l) } M) (up σ d ⟨blk, some ⟨blk, 0, none⟩, l.length, cap, #[], none⟩) w') d
    simpa [cx, up_same, Slot.sv] using this
/-- A row of nothing. -/
theorem post_row_nil (sm : Sm w1 B M σ w) (hB : Below w.heap.size w w') {a : Option Addr} {t : Ty} :
    Post w1 B M σ w d { new := some (.row t []) } (.bs d) (.slice a 0 0) w' := by
  intro hfree hmen
  obtain ⟨s, L⟩ := sm.new hB d ⟨0, a, 0, 0, #[], none⟩ (.row t []) (fun h => by simp [Blk.real] at h) (fun k b e h => hfree rfl k b e h) (fun L => ⟨a, by simp [cx, up_same, Slot.sv]⟩)
  refine ⟨_, s, L, fun k => ?_, ?_⟩
  · by_cases h : k = d
    · exact .inr ⟨rfl, h⟩
    · exact .inl (up_ne _ _ h)
  · have := VR.bs (c := cx B (effM d { new := some (.row t []) } M) (up σ d ⟨0, a, 0, 0, #[], none⟩) w') d
    simpa [cx, up_same, Slot.sv] using this
theorem post_cut {b : Nat} {blk : Blk} {v : V} {v' : Value} (sm : Sm w1 B M σ w)
    (h : Sm w1 B (up M b none) σ w → Post w1 B (up M b none) σ w d { new := some blk } v v' w') : Post w1 B M σ w d { cut := some b, new := some blk } v v' w' := by
  intro hfree hmen
  obtain ⟨s, L⟩ := sm.restrict (M' := up M b none) (fun k blk2 e => by
    by_cases hk : k = b
    · subst hk; simp [up_same] at e
    · rw [up_ne _ _ hk] at e; exact e)
  obtain ⟨σ', s', L', h1, h2⟩ := h s (fun _ => hfree rfl) hmen
  exact ⟨σ', s', ⟨Nat.le_trans L.size L'.size, fun r hr ho => (L'.heap r hr fun h => ho (L.own r hr h)), fun r hr h => L.own r hr (L'.own r (Nat.lt_of_lt_of_le hr L.size) h),
    fun r hr h => (L'.B r (Nat.lt_of_lt_of_le hr L.size) h).elim .inl fun h => .inr (L.own r hr h)⟩, h1, h2⟩
/-- A row that grew where it lay. -/
theorem post_regrow (sm : Sm w1 B M σ w) {b : Nat} {t : Ty} {l' : List (T t)} {blk0 : Blk} (hM : M b = some blk0) (hreal : blk0.real = true) (hnm : ∀ ka va kt vt lf, blk0 ≠ .map ka va kt vt lf true) (hne' : l' ≠ []) {cap : Nat} {cs' rest : List Value} {e : TypeId}
    (hsz : w'.heap.size = w.heap.size) (hos : w'.os = w.os) (htape : w'.tape = w.tape) (hout : w'.output = w.output ∧ w.drawn ≤ w'.drawn) (hoth : ∀ r, r ≠ (σ b).blk → w'.heap[r]? = w.heap[r]?)
    (hh : w'.heap[(σ b).blk]? = some (.cells (cs' ++ rest).toArray e (0, 0))) (hv : VRs (cx B M σ w) (l'.flatMap (unpack false t)) cs') (hl : l'.length ≤ cap) (hcs : cap * tsize t ≤ (cs' ++ rest).length) :
    Post w1 B M σ w d { cut := some b, new := some (.row t l') } (.bs d) (.slice (some ⟨(σ b).blk, 0, none⟩) l'.length cap) w' := by
  intro hfree hmen
  have hreal' : Blk.real (.row t l') = true := by cases l' with | nil => exact absurd rfl hne' | cons _ _ => rfl
  have hbase := sm.base b _ hM hreal
  have hfree' : ∀ k blk, up M b none k = some blk → k ≠ d → menB d blk = false := fun k blk h h2 => hfree rfl k blk h h2
  have hun : ∀ k blk, up M b none k = some blk → M k = some blk ∧ k ≠ b := fun k blk h => by
    by_cases hk : k = b
    · subst hk; simp [up_same] at h
    · rw [up_ne _ _ hk] at h; exact ⟨h, hk⟩
  generalize hs : (⟨(σ b).blk, some ⟨(σ b).blk, 0, none⟩, l'.length, cap, #[], none⟩ : Slot) = s
  have hsb : s.blk = (σ b).blk := by rw [← hs]
  have hE : effM d { cut := some b, new := some (.row t l') } M = up (up M b none) d (some (.row t l')) := rfl
  have hown : ∀ r, own (up (up M b none) d (some (.row t l'))) (up σ d s) r → own M σ r := by
    rintro r ⟨k, blk, e1, e2, e3⟩
    by_cases hk : k = d
    · subst hk
      rw [up_same] at e3
      exact ⟨b, _, hM, hreal, by rw [← e3, hsb]⟩
    · rw [up_ne _ _ hk] at e1 e3
      exact ⟨k, blk, (hun k blk e1).1, e2, e3⟩
  have L : Later (cx B M σ w) (cx B (up (up M b none) d (some (.row t l'))) (up σ d s) w') :=
    ⟨by simp only [cx]; omega, fun r _ ho => hoth r fun h => ho ⟨b, _, hM, hreal, h.symm⟩, fun r _ h => hown r h, fun _ _ h => .inl h⟩
  rw [hE]
  refine ⟨up σ d s, ⟨sm.below.trans ⟨hos, htape, hout, by omega, fun i hi => hoth i (by omega)⟩, sm.bB, ?_, ?_, ?_⟩, L, fun k => ?_, ?_⟩
  · intro k blk e1 e2
    by_cases hk : k = d
    · subst hk; rw [up_same, hsb]; exact ⟨hbase.1, by omega⟩
    · rw [up_ne _ _ hk] at e1 ⊢
      have := sm.base k blk (hun k blk e1).1 e2
      exact ⟨this.1, by omega⟩
  · intro k k' b1 b2 e1 e2 r1 r2 h
    by_cases hk : k = d <;> by_cases hk' : k' = d
    · rw [hk, hk']
    · exfalso
      subst hk
      rw [up_same, up_ne _ _ hk', hsb] at h
      rw [up_ne _ _ hk'] at e2
      exact (hun k' b2 e2).2 (sm.inj k' b b2 _ (hun k' b2 e2).1 hM r2 hreal h.symm)
    · exfalso
      subst hk'
      rw [up_same, up_ne _ _ hk, hsb] at h
      rw [up_ne _ _ hk] at e1
      exact (hun k b1 e1).2 (sm.inj k b b1 _ (hun k b1 e1).1 hM r1 hreal h)
    · rw [up_ne _ _ hk] at e1
      rw [up_ne _ _ hk'] at e2
      rw [up_ne _ _ hk, up_ne _ _ hk'] at h
      exact sm.inj k k' b1 b2 (hun k b1 e1).1 (hun k' b2 e2).1 r1 r2 h
  · intro k blk e1
    by_cases hk : k = d
    · subst hk
      simp only [up_same, Option.some.injEq] at e1
      subst e1
      cases l' with
      | nil => exact absurd rfl hne'
      | cons x r =>
        refine ⟨cs', rest, e, cap, ?_, rowVals_later L hv, ?_, hl, hcs⟩
        · simp only [cx, up_same, hsb]; exact hh
        · simp [cx, up_same, Slot.sv, ← hs]
    · rw [up_ne _ _ hk] at e1
      obtain ⟨e2, hkb⟩ := hun k blk e1
      refine (sm.blk k blk e2).later L (fun hr => hoth _ fun h => hkb (sm.inj k b blk _ e2 hM hr hreal h)) (by simp [cx, up_ne _ _ hk]) (fun k2 => ?_) (fun m ka va kt vt l0 cur hbk lf hm => ?_)
      · by_cases h2 : k2 = d
        · subst h2; exact .inl (hfree' k blk e1 hk)
        · exact .inr (by simp [cx, up_ne _ _ h2])
      · have hmd : m ≠ d := by
          intro hmd
          subst hmd
          have := hfree' k blk e1 hk
          subst hbk
          simp [menB] at this
        have hmb : m ≠ b := by
          intro hmb; subst hmb; rw [hM] at hm; simp only [Option.some.injEq] at hm; exact hnm _ _ _ _ _ hm
        refine ⟨.inl (by rw [up_ne _ _ hmd, up_ne _ _ hmb]; exact hm), hoth _ fun h => hmb (sm.inj m b _ _ hm hM rfl hreal h)⟩
  · by_cases h : k = d
    · exact .inr ⟨rfl, h⟩
    · exact .inl (up_ne _ _ h)
  · have := VR.bs (c := cx B (up (up M b none) d (some (.row t l'))) (up σ d s) w') d
    have e3 : ((cx B (up (up M b none) d (some (.row t l'))) (up σ d s) w').σ d).sv = .slice (some ⟨(σ b).blk, 0, none⟩) l'.length cap := by
      simp [cx, up_same, Slot.sv, ← hs]
    rw [← e3]; exact this
end
section
variable {R : Type} {H : Hk R} {r : R} {k : V → Eff → Option R} {P : Program} {F : Fence} {n : Nat} {w1 : World} {B : Nat → Prop} {M : Nat → Option Blk} {σ : Nat → Slot} {w : World} {a : Act} {o : Oper} {d : Nat} {E : Nat → Option V}
variable (hF : ∀ f, F.fn f) (hd : F.depth = none) (sm : Sm w1 B M σ w) (en : EnvR (cx B M σ w) E a)
include hF sm en
theorem one_sla {t e2 : TypeId} {x : Operand} {y : Opd} {m : Nat} {ty : Ty} (ho : o.op = .slice t x none none none) (hx : opdOk x y = true) (ht : P.underlying t = some (.array m e2)) (hn : szOf P e2 = some (tsize ty))
    (h : evI H (.sla ty m y) d E M k = some r) : Snd r k P F n w1 B M σ w a o d := by
  simp only [evI] at h
  split at h
  · rename_i cs off bo hxv
    split at h
    · rename_i ds hds
      split at h
      · rename_i xs hxs
        obtain ⟨blk, o2, cs', e, h1, h2, h3, h4, h5, h6⟩ := (opd_sound en hx hxv).pc_inv
        obtain ⟨hl, p', m', q', rfl, hp, hm, hvm, hsc⟩ := h6.cut hds
        obtain ⟨hv, hlen⟩ := chunk_sound (bor := bo || ds.any (borV 5)) hxs hvm (fun y hy hb => by
          simp only [Bool.or_eq_true, List.any_eq_true]
          exact .inr ⟨y, hy, hb⟩)
        refine Snd.pure hF (by simp [ho]) sm h (v' := .slice (some ⟨blk, o2 + off, none⟩) m m) ?_ ?_
        · simp only [execOp, ho, Option.map_none, Instr.sliceAt, Sem.run_bind, run_und ht, Result.andThen_ok, e, Instr.sureAddr, Sem.run_pure, Instr.sliceBounds, run_size hn, Nat.zero_mul, Nat.sub_zero]
          split
          · rfl
          · simp [add_at]
        · have hc := h5.mid
          rw [hp] at hc
          by_cases h0 : xs = []
          · subst h0
            simp only [List.length_nil] at hlen
            subst hlen
            exact .slE _ _ _ _ _ fun _ => rfl
          · have := VR.slN (c := cx B M σ w) ty xs (bo || ds.any (borV 5)) true blk (o2 + off) m m' h1 h2 (fun hb => h3 (by simp only [Bool.or_eq_false_iff] at hb; exact hb.1)) (by omega) (fun _ => by omega) hc hv
            rw [hlen] at this
            exact this
      · simp at h
    · simp at h
  · simp at h
omit hF sm en in
theorem flat_false {bo : Bool} {ty : Ty} (h : (bo && !flat ty) = false) (l : List (T ty)) : l.flatMap (unpack bo ty) = l.flatMap (unpack false ty) := by
  cases bo with
  | false => rfl
  | true =>
    have hf : flat ty = true := by simpa using h
    congr 1
    funext y
    exact unpack_flat true false ty y hf
theorem one_app {c : Call} {x y : Operand} {x' y' : Opd} {ty : Ty} {bd : Nat} {t t2 e e2 : TypeId} {i : TypeInfo} {z : Value} (ho : o.op = .call c) (hc : c.callee = .builtin .append) (ha : c.args = #[x, y]) (h0 : c.argTypes[0]? = some t) (h1 : c.argTypes[1]? = some t2)
    (ht : P.underlying t = some (.slice e)) (ht2 : P.underlying t2 = some (.slice e2)) (hi : P.info? e = some i) (hz : i.zero = some z) (hsz : i.size = tsize ty) (hzs : z.cells.size = i.size) (hbd : bd * i.bytes ≤ 140737488355328) (hbd2 : bd ≤ 70368744177664)
    (hx : opdOk x x' = true) (hy : opdOk y y' = true) (h : evI H (.app ty bd x' y') d E M k = some r) : Snd r k P F n w1 B M σ w a o d := by
  simp only [evI] at h
  split at h
  · rename_i yv hyv
    obtain ⟨t2', ys, b2, ya, ycap, h, ey, hyc, hyl⟩ := row_inv sm (opd_sound en hy hyv) h
    split at h
    · rename_i et2
      subst et2
      simp only [cond_eq_ite] at h
      split at h
      · simp at h
      · rename_i hb2
        have hb2 : (b2 && !flat t2') = false := by simpa using hb2
        obtain ⟨news, hnews, hnv⟩ : ∃ news, Lies w ya ys.length i.size news ∧ VRs (cx B M σ w) (ys.flatMap (unpack false t2')) news := by
          rcases hyl with rfl | ⟨blk, off, cs, e1, -, h3, h4⟩
          · exact ⟨[], ⟨by simp, .inl rfl⟩, .nil⟩
          · rw [flat_false hb2] at h4
            refine ⟨cs, ⟨?_, .inr ⟨blk, off, e1, h3⟩⟩, h4⟩
            rw [← h4.length, length_flat, hsz]
        have hplain : ∀ v, v ∈ news → plain v := hnv.plain (by
          rw [List.all_eq_true]
          intro z2 hz2
          simp only [List.mem_flatMap] at hz2
          obtain ⟨y2, _, hy2⟩ := hz2
          exact List.all_eq_true.1 (scal_unpack false t2' y2) z2 hy2)
        -- the model's run
        have run : ∀ {v' : Value} {w' : World} {v : V} {ef : Eff} {xv : Value}, a.eval x = xv → (Builtin.append_ c.argTypes o.type #[xv, .slice ya ys.length ycap]).run P w = .ok v' w' → k v ef = some r → Post w1 B M σ w d ef v v' w' → Snd r k P F n w1 B M σ w a o d := fun exv hr hk hp =>
          Snd.value hF (by simp [ho]) hk (by simp [execOp, ho, resolve, hc, ha, ey, exv, invoke, builtin, hr]) hp
        -- with a new block
        have fresh : ∀ {σ0 : Unit} {M0 : Nat → Option Blk} (sm0 : Sm w1 B M0 σ w) {xa : Option Addr} {l : List (T t2')} {xcap : Nat} {olds : List Value}, Lies w xa l.length i.size olds → VRs (cx B M0 σ w) (l.flatMap (unpack false t2')) olds → VRs (cx B M0 σ w) (ys.flatMap (unpack false t2')) news →
            xcap < l.length + ys.length → l.length + ys.length ≤ bd → ∃ v' w', (Builtin.append_ c.argTypes o.type #[.slice xa l.length xcap, .slice ya ys.length ycap]).run P w = .ok v' w' ∧ Post w1 B M0 σ w d { new := some (.row t2' (l ++ ys)) } (.bs d) v' w' := by
          intro _ M0 sm0 xa l xcap olds hl hv hv2 hcap hle
          have hb48 : (l.length + ys.length) * i.bytes ≤ 140737488355328 := Nat.le_trans (Nat.mul_le_mul_right _ hle) hbd
          have hr := run_grow (P := P) (w := w) (ty := o.type) h0 h1 ht ht2 hi hz hl hnews hcap (by omega) hb48 (cm := ycap)
          refine ⟨_, _, hr, ?_⟩
          have hge := grownCap_ge w (l.length + ys.length) xcap e
          have hnew : (w.drew.alloc (.cells (olds ++ news ++ (Builtin.zeroCells z.cells (grownCap w (l.length + ys.length) xcap e - (l.length + ys.length))).toList).toArray e)).heap[w.heap.size]? = some (.cells (olds ++ news ++ (Builtin.zeroCells z.cells (grownCap w (l.length + ys.length) xcap e - (l.length + ys.length))).toList).toArray e (0, 0)) := by
            show (w.heap.push _)[w.heap.size]? = _
            simp
          have hp := post_row (d := d) sm0 (w' := w.drew.alloc (.cells (olds ++ news ++ (Builtin.zeroCells z.cells (grownCap w (l.length + ys.length) xcap e - (l.length + ys.length))).toList).toArray e)) (((Below.refl _ _).drew).alloc (Nat.le_refl _) _) (Nat.le_refl _) (by simp) (l := l ++ ys) hnew (by rw [List.flatMap_append]; exact hv.append hv2) (cap := grownCap w (l.length + ys.length) xcap e) (by simpa using hge) (by
              intro hh
              have : (l ++ ys).length = 0 := by rw [hh]; rfl
              simp only [List.length_append] at this
              omega) (by
              simp only [List.length_append, Array.length_toList, size_zeroCells, hzs, hl.1, hnews.1, ← Nat.add_mul, ← hsz]
              exact Nat.mul_le_mul_right _ (by omega))
          simpa using hp
        split at h
        · rename_i t1 l b1 hxv
          split at h
          · rename_i et1
            subst et1
            split at h
            · rename_i hcond
              simp only [Bool.and_eq_true, Nat.ble_eq, Bool.not_eq_true'] at hcond
              obtain ⟨hle, hb1⟩ := hcond
              obtain ⟨xa, xcap, ex, hxc, hxe, hxl⟩ := (opd_sound en hx hxv).sl_inv
              have hxe := hxe rfl
              obtain ⟨olds, holds, hov⟩ : ∃ olds, Lies w xa l.length i.size olds ∧ VRs (cx B M σ w) (l.flatMap (unpack false t1)) olds := by
                rcases hxl with rfl | ⟨blk, off, cs, e1, -, -, -, h3, h4⟩
                · exact ⟨[], ⟨by simp, .inl rfl⟩, .nil⟩
                · rw [flat_false hb1] at h4
                  refine ⟨cs, ⟨?_, .inr ⟨blk, off, e1, h3⟩⟩, h4⟩
                  rw [← h4.length, length_flat, hsz]
              cases l with
              | nil =>
                simp only [castL_eq] at h
                by_cases hys : ys = []
                · subst hys
                  simp only [List.length_nil] at hxe
                  subst hxe
                  exact run ex (run_nothing (P := P) (w := w) (ty := o.type) (a := xa) (b := ya) h0 h1 ht ht2 hi (n := 0) (cn := 0) (cm := ycap) (Nat.le_refl _)) h (post_row_nil sm (Below.refl _ _))
                · have hpos : 0 < ys.length := List.length_pos_iff.2 hys
                  obtain ⟨v', w', hr, hp⟩ := fresh (σ0 := ()) sm holds hov hnv (xcap := xcap) (by simp only [List.length_nil] at hxe ⊢; omega) hle
                  exact run ex hr h (by simpa using hp)
              | cons x1 r1 =>
                cases ys with
                | nil => exact run rfl (by rw [ex]; exact run_nothing (P := P) (w := w) (ty := o.type) (a := xa) (b := ya) h0 h1 ht ht2 hi (n := (x1 :: r1).length) (cn := xcap) (cm := ycap) hxc) h (post_pure sm (by rw [← ex]; exact opd_sound en hx hxv))
                | cons y1 r2 =>
                  simp only [castL_eq] at h
                  obtain ⟨v', w', hr, hp⟩ := fresh (σ0 := ()) sm holds hov hnv (xcap := xcap) (by simp only [List.length_cons] at hxe ⊢; omega) hle
                  exact run ex hr h hp
            · simp at h
          · simp at h
        · rename_i b hxv
          split at h
          · rename_i t1 l hM
            split at h
            · rename_i et1
              subst et1
              split at h
              · rename_i hle
                simp only [Nat.ble_eq] at hle
                have exb := (opd_sound en hx hxv).bs_inv
                cases ys with
                | nil =>
                  have ex2 : ∃ xa xcap, a.eval x = .slice xa l.length xcap ∧ l.length ≤ xcap := by
                    have hblk := sm.blk b _ hM
                    cases l with
                    | nil => obtain ⟨xa, hxa⟩ := hblk; exact ⟨xa, 0, by rw [exb, hxa]; rfl, by simp⟩
                    | cons x1 r1 => obtain ⟨cs', rest, e5, cap, he, hvs, hsv, hcap, hszz⟩ := hblk; exact ⟨_, cap, by rw [exb, hsv], hcap⟩
                  obtain ⟨xa, xcap, ex, hxc⟩ := ex2
                  exact run rfl (by rw [ex]; exact run_nothing (P := P) (w := w) (ty := o.type) (a := xa) (b := ya) h0 h1 ht ht2 hi (n := l.length) (cn := xcap) (cm := ycap) hxc) h (post_pure sm (by rw [← ex]; exact opd_sound en hx hxv))
                | cons y1 r2 =>
                  simp only [castL_eq] at h
                  have hblk := sm.blk b _ hM
                  cases l with
                  | nil =>
                    obtain ⟨xa, hxa⟩ := hblk
                    have ex : a.eval x = .slice xa 0 0 := by rw [exb, hxa]
                    have hL : Later (cx B M σ w) (cx B (up M b none) σ w) := (sm.restrict (M' := up M b none) (fun k blk2 e => by
                      by_cases hk : k = b
                      · subst hk; simp [up_same] at e
                      · rw [up_ne _ _ hk] at e; exact e)).2
                    obtain ⟨s0, -⟩ := sm.restrict (M' := up M b none) (fun k blk2 e => by
                      by_cases hk : k = b
                      · subst hk; simp [up_same] at e
                      · rw [up_ne _ _ hk] at e; exact e)
                    obtain ⟨v', w', hr, hp⟩ := fresh (σ0 := ()) s0 (xa := xa) (l := []) (xcap := 0) (olds := []) ⟨by simp, .inl rfl⟩ .nil (rowVals_later hL hnv) (by simp) hle
                    exact run ex hr h (post_cut sm fun _ => hp)
                  | cons x1 r1 =>
                    obtain ⟨cs', rest, e5, cap, he, hvs, hsv, hcap, hszz⟩ := hblk
                    have ex : a.eval x = .slice (some ⟨(σ b).blk, 0, none⟩) (x1 :: r1).length cap := by rw [exb, hsv]; rfl
                    have hcsl : cs'.length = (x1 :: r1).length * i.size := by rw [← hvs.length, length_flat, hsz]
                    by_cases hroom : (x1 :: r1).length + (y1 :: r2).length ≤ cap
                    · -- where it lies
                      have hnl := hnews.1
                      have hmul : ((x1 :: r1).length + (y1 :: r2).length) * i.size ≤ cap * i.size := Nat.mul_le_mul_right _ hroom
                      rw [Nat.add_mul] at hmul
                      have hfit : (x1 :: r1).length * i.size + news.length ≤ (cs' ++ rest).toArray.size := by
                        simp only [List.size_toArray]
                        rw [hnl]
                        rw [← hsz] at hszz
                        omega
                      have hr := run_room (P := P) (w := w) (ty := o.type) h0 h1 ht ht2 hi (n := (x1 :: r1).length) (cn := cap) (cm := ycap) he hnews hplain hroom hfit
                      have hrl : news.length ≤ rest.length := by
                        simp only [List.size_toArray, List.length_append] at hfit
                        omega
                      have he2 : w.heap[(σ b).blk]? = some (.cells (cs' ++ rest.take news.length ++ rest.drop news.length).toArray e5 (0, 0)) := by
                        rw [List.append_assoc, List.take_append_drop]; exact he
                      have hst := storeL_heap (cs := news) he2 (by simp; omega)
                      rw [hcsl] at hst
                      obtain ⟨r1', r2', r3', r4'⟩ := storeL_rest (b := (σ b).blk) (cs := news) (o := (x1 :: r1).length * i.size) (w := w)
                      have hp := post_regrow (d := d) (w' := storeL w (σ b).blk ((x1 :: r1).length * i.size) news) sm hM rfl (fun _ _ _ _ _ h => by cases h) (l' := (x1 :: r1) ++ (y1 :: r2)) (by simp) r1' r2' r3' r4' (fun r hr => storeL_other hr) (cs' := cs' ++ news) (rest := rest.drop news.length) (e := e5) (cap := cap)
                        hst (by rw [List.flatMap_append]; exact hvs.append hnv) (by rw [List.length_append]; exact hroom) (by
                          simp only [List.length_append, List.length_drop] at hszz ⊢
                          omega)
                      rw [List.length_append] at hp
                      exact run ex hr h hp
                    · -- a new block
                      have hL : Later (cx B M σ w) (cx B (up M b none) σ w) := (sm.restrict (M' := up M b none) (fun k blk2 e => by
                        by_cases hk : k = b
                        · subst hk; simp [up_same] at e
                        · rw [up_ne _ _ hk] at e; exact e)).2
                      obtain ⟨s0, -⟩ := sm.restrict (M' := up M b none) (fun k blk2 e => by
                        by_cases hk : k = b
                        · subst hk; simp [up_same] at e
                        · rw [up_ne _ _ hk] at e; exact e)
                      obtain ⟨v', w', hr, hp⟩ := fresh (σ0 := ()) s0 (xa := some ⟨(σ b).blk, 0, none⟩) (l := x1 :: r1) (xcap := cap) (olds := cs') ⟨hcsl, .inr ⟨_, 0, rfl, take_cells he⟩⟩ (rowVals_later hL hvs) (rowVals_later hL hnv) (by omega) hle
                      exact run ex hr h (post_cut sm fun _ => hp)
              · simp at h
            · simp at h
          · rename_i t1 hM
            simp only [cond_eq_ite, Bool.and_eq_true, decide_eq_true_eq, Nat.ble_eq] at h
            split at h
            · rename_i hcond
              obtain ⟨et1, hle⟩ := hcond
              subst et1
              obtain ⟨cs', e5, cap, he, hsv, hszz⟩ := sm.blk b _ hM
              have ex : a.eval x = .slice (some ⟨(σ b).blk, 0, none⟩) 0 cap := by rw [(opd_sound en hx hxv).bs_inv, hsv]; rfl
              cases ys with
              | nil => exact run rfl (by rw [ex]; exact run_nothing (P := P) (w := w) (ty := o.type) (a := some ⟨(σ b).blk, 0, none⟩) (b := ya) h0 h1 ht ht2 hi (n := 0) (cn := cap) (cm := ycap) (Nat.zero_le _)) h (post_pure sm (by rw [← ex]; exact opd_sound en hx hxv))
              | cons y1 r2 =>
                simp only [castL_eq] at h
                by_cases hroom : (y1 :: r2).length ≤ cap
                · have hnl := hnews.1
                  have hmul : (y1 :: r2).length * i.size ≤ cap * i.size := Nat.mul_le_mul_right _ hroom
                  rw [← hsz] at hszz
                  have hcl : news.length ≤ cs'.length := by rw [hnl]; omega
                  have hr := run_room (P := P) (w := w) (ty := o.type) h0 h1 ht ht2 hi (n := 0) (cn := cap) (cm := ycap) he hnews hplain (by omega) (by simp only [List.size_toArray]; omega)
                  have he2 : w.heap[(σ b).blk]? = some (.cells ([] ++ cs'.take news.length ++ cs'.drop news.length).toArray e5 (0, 0)) := by
                    rw [List.nil_append, List.take_append_drop]; exact he
                  have hst := storeL_heap (cs := news) he2 (by simp; omega)
                  obtain ⟨r1', r2', r3', r4'⟩ := storeL_rest (b := (σ b).blk) (cs := news) (o := 0) (w := w)
                  have hp := post_regrow (d := d) (w' := storeL w (σ b).blk 0 news) sm hM rfl (fun _ _ _ _ _ h => by cases h) (l' := y1 :: r2) (by simp) r1' r2' r3' r4' (fun r hr => storeL_other hr) (cs' := news) (rest := cs'.drop news.length) (e := e5) (cap := cap)
                    (by simpa using hst) hnv hroom (by
                      simp only [List.length_append, List.length_drop]
                      rw [← hsz]
                      omega)
                  rw [Nat.zero_mul, Nat.zero_add] at hr
                  exact run ex hr h hp
                · have hL : Later (cx B M σ w) (cx B (up M b none) σ w) := (sm.restrict (M' := up M b none) (fun k blk2 e => by
                    by_cases hk : k = b
                    · subst hk; simp [up_same] at e
                    · rw [up_ne _ _ hk] at e; exact e)).2
                  obtain ⟨s0, -⟩ := sm.restrict (M' := up M b none) (fun k blk2 e => by
                    by_cases hk : k = b
                    · subst hk; simp [up_same] at e
                    · rw [up_ne _ _ hk] at e; exact e)
                  obtain ⟨v', w', hr, hp⟩ := fresh (σ0 := ()) s0 (xa := some ⟨(σ b).blk, 0, none⟩) (l := []) (xcap := cap) (olds := []) ⟨by simp, .inl rfl⟩ .nil (rowVals_later hL hnv) (by simp only [List.length_nil, Nat.zero_add]; omega) (by simpa using hle)
                  exact run ex hr h (post_cut sm fun _ => hp)
            · simp at h
          · simp at h
        · simp at h
    · simp at h
  · simp at h
end
end Go.Ge
