/- Structs, arrays and slices, built of their parts. -/
import Derived.Test.YtneeobmefioenaaGeOne6
import Derived.Laws.Tables
namespace Go.Ge
open Go Go.RowKit

theorem cells_any {c : Cx} {v : V} {v' : Value} (h : VR c v v') : VRs c v.cells v'.cells.toList := by
  cases h with
  | agg _ cs' _ hv => simpa [V.cells, Value.cells] using hv
  | b x => exact .cons (.b x) .nil
  | i a b => exact .cons (.i a b) .nil
  | s x => exact .cons (.s x) .nil
  | slE t b e a cap hx => exact .cons (.slE t b e a cap hx) .nil
  | slN t l b e blk off cap cs a1 a2 a3 a4 a5 a6 a7 => exact .cons (.slN t l b e blk off cap cs a1 a2 a3 a4 a5 a6 a7) .nil
  | tup cs cs' h => exact .cons (.tup cs cs' h) .nil
  | pc cs off b blk o cs' a1 a2 a3 a4 a5 a6 => exact .cons (.pc cs off b blk o cs' a1 a2 a3 a4 a5 a6) .nil
  | pz => exact .cons .pz .nil
  | pb k o => exact .cons (.pb k o) .nil
  | pr k i s o => exact .cons (.pr k i s o) .nil
  | bs k =>
    have : VRs c [V.bs k] [(c.σ k).sv] := .cons (.bs k) .nil
    simpa [V.cells, Slot.sv, Value.cells] using this
  | fn f cs cs' h => exact .cons (.fn f cs cs' h) .nil
  | fz => exact .cons .fz .nil
  | mp k => exact .cons (.mp k) .nil
  | mz => exact .cons .mz .nil
  | it k => exact .cons (.it k) .nil
  | nif => exact .cons .nif .nil
  | yf q => exact .cons (.yf q) .nil

theorem foldl_over : ∀ (cs : List Value) (j : Nat) (p m q : List Value) (arr : Array Value), arr = (p ++ m ++ q).toArray → m.length = cs.length → ∀ off, p.length = off + j →
    (cs.zipIdx j).foldl (fun a x => a.setIfInBounds (off + x.2) x.1) arr = (p ++ cs ++ q).toArray
  | [], j, p, m, q, arr, h, hl, off, hp => by
    have : m = [] := List.eq_nil_of_length_eq_zero (by simpa using hl)
    subst this
    simpa using h
  | c :: cs, j, p, [], q, arr, h, hl, off, hp => by simp at hl
  | c :: cs, j, p, x :: m, q, arr, h, hl, off, hp => by
    simp only [List.zipIdx_cons, List.foldl_cons]
    have e1 : arr.setIfInBounds (off + j) c = ((p ++ [c]) ++ m ++ q).toArray := by
      subst h
      rw [← hp]
      simp
    have := foldl_over cs (j + 1) (p ++ [c]) m q _ e1 (by simpa using hl) off (by simp; omega)
    rw [this]
    simp
theorem fill_one {cs : Array Value} {off : Nat} {p m q : List Value} (hp : p.length = off) (hm : m.length = cs.size) :
    cs.zipIdx.foldl (fun (a : Array Value) (x : Value × Nat) => a.setIfInBounds (off + x.2) x.1) (p ++ m ++ q).toArray = (p ++ cs.toList ++ q).toArray := by
  rw [← Array.foldl_toList, Array.toList_zipIdx]
  exact foldl_over cs.toList 0 p m q _ rfl (by simpa using hm) off (by omega)
/-- What the parts are. -/
inductive PartsR (c : Cx) (pf : Nat → Option (Nat × Nat)) : List (Nat × Nat × V) → List (Nat × Value) → Prop
  | nil : PartsR c pf [] []
  | cons {off sz i : Nat} {v : V} {v' : Value} {l : List (Nat × Nat × V)} {l' : List (Nat × Value)} (hp : pf i = some (off, sz)) (h : VR c v v') (hs : PartsR c pf l l') : PartsR c pf ((off, sz, v) :: l) ((i, v') :: l')
theorem fills_sound {c : Cx} {pf : Nat → Option (Nat × Nat)} : ∀ {l : List (Nat × Nat × V)} {l' : List (Nat × Value)}, PartsR c pf l l' → ∀ {zs cs : List V} {zs' : List Value}, fills l zs = some cs → VRs c zs zs' →
    ∃ cs', Instr.fill pf zs'.toArray l' = some cs'.toArray ∧ VRs c cs cs'
  | _, _, .nil, zs, cs, zs', h, hv => by simp [fills] at h; subst h; exact ⟨zs', rfl, hv⟩
  | _, _, .cons (off := off) (sz := sz) (v := v) (v' := v') hp hvv hs, zs, cs, zs', h, hv => by
    simp only [fills, cond_eq_ite, Nat.beq_eq] at h
    split at h
    · rename_i hsz
      split at h
      · rename_i zs2 hz2
        obtain ⟨p, m, q, rfl, h1, h2, rfl⟩ := fillN_spec hz2
        obtain ⟨a1, q', rfl, ha1, hq'⟩ := VRs.split hv
        obtain ⟨p', m', rfl, hp', hm'⟩ := VRs.split ha1
        have hcv := cells_any hvv
        have l1 : v'.cells.size = sz := by rw [← hsz, hcv.length]; simp
        have l2 : m'.length = v'.cells.size := by rw [← hm'.length, h2, hcv.length]; simp
        have hf := fill_one (cs := v'.cells) (off := off) (p := p') (m := m') (q := q') (by rw [← hp'.length, h1]) l2
        obtain ⟨cs', e, hr⟩ := fills_sound hs h ((hp'.append hcv).append hq')
        refine ⟨cs', ?_, hr⟩
        rw [← e]
        simp only [Instr.fill, hp]
        have hlp : p'.length = off := by rw [← hp'.length, h1]
        have hno : ¬ (v'.cells.size ≠ sz ∨ off + v'.cells.size > (p' ++ m' ++ q').toArray.size) := by
          simp only [List.size_toArray, List.length_append]
          omega
        have hb : (decide (v'.cells.size ≠ sz) || decide (off + v'.cells.size > (p' ++ m' ++ q').toArray.size)) = false := by
          rw [Bool.eq_false_iff]
          intro hh
          simp only [Bool.or_eq_true, decide_eq_true_eq] at hh
          exact hno hh
        have hb' : (decide (v'.cells.size ≠ sz) || decide (off + v'.cells.size > (p' ++ m' ++ q').toArray.size)) ≠ true := by rw [hb]; simp
        rw [if_neg hb']
        congr 1
      · simp at h
    · simp at h
def plOf (P : Program) (t : TypeId) : Option (Nat → Option (Nat × Nat)) :=
  match P.underlying t with
  | some (.array _ e) => (P.info? e).map fun ie i => some (i * ie.size, ie.size)
  | some (.struct fs) => (fs.toList.mapM (fun f => (P.info? f.type).map fun i => (f.offset, i.size))).map fun places => (places.toArray[·]?)
  | _ => none
theorem built_eq {P : Program} {t : TypeId} {it : TypeInfo} {z : Value} {pf : Nat → Option (Nat × Nat)} (hi : P.info? t = some it) (hz : it.zero = some z) (hp : plOf P t = some pf) (parts : List (Nat × Value)) : P.built t parts = Instr.fill pf z.cells parts := by
  unfold Program.built
  unfold plOf at hp
  split at hp
  · rename_i n e hu
    simp only [Option.map_eq_some_iff] at hp
    obtain ⟨ie, hie, rfl⟩ := hp
    simp [hi, hu, hz, hie]
  · rename_i fs hu
    simp only [Option.map_eq_some_iff] at hp
    obtain ⟨pl, hpl, rfl⟩ := hp
    simp only [hi, hu, hz, hpl]
  · simp at hp
def partsOk (pf : Nat → Option (Nat × Nat)) : List (Nat × Operand) → List (Nat × Nat × Opd) → Bool
  | [], [] => true
  | (i, x) :: r, (off, sz, y) :: s => (match pf i with | some (a, b) => Nat.beq a off && Nat.beq b sz | none => false) && opdOk x y && partsOk pf r s
  | _, _ => false
theorem parts_sound {c : Cx} {E : Nat → Option V} {a : Act} (en : EnvR c E a) {pf : Nat → Option (Nat × Nat)} : ∀ {l : List (Nat × Operand)} {m : List (Nat × Nat × Opd)}, partsOk pf l m = true →
    ∀ {vs : List (Nat × Nat × V)}, mapO (partV E) m = some vs → PartsR c pf vs (l.map fun p => (p.1, a.eval p.2))
  | [], [], _, vs, h => by simp [mapO] at h; subst h; exact .nil
  | (i, x) :: r, (off, sz, y) :: s, ho, vs, h => by
    simp only [partsOk, Bool.and_eq_true] at ho
    obtain ⟨v, vs', h1, h2, rfl⟩ := mapO_cons h
    unfold partV at h1
    split at h1
    · rename_i u hu
      simp only [Option.some.injEq] at h1
      subst h1
      obtain ⟨⟨h3, h4⟩, h5⟩ := ho
      split at h3
      · rename_i p q hpf
        simp only [Bool.and_eq_true, Nat.beq_eq] at h3
        obtain ⟨rfl, rfl⟩ := h3
        exact .cons hpf (opd_sound en h4 hu) (parts_sound en h5 h2)
      · simp at h3
    · simp at h1
  | [], _ :: _, ho, _, _ => by simp [partsOk] at ho
  | _ :: _, [], ho, _, _ => by simp [partsOk] at ho
section
variable {R : Type} {H : Hk R} {r : R} {k : V → Eff → Option R} {P : Program} {F : Fence} {n : Nat} {w1 : World} {B : Nat → Prop} {M : Nat → Option Blk} {σ : Nat → Slot} {w : World} {a : Act} {o : Oper} {d : Nat} {E : Nat → Option V}
variable (hF : ∀ f, F.fn f) (hd : F.depth = none) (sm : Sm w1 B M σ w) (en : EnvR (cx B M σ w) E a)
include hF sm en
theorem one_bd {t : TypeId} {parts : Array (Nat × Operand)} {ps : List (Nat × Nat × Opd)} {zs : List V} {it : TypeInfo} {z : Value} {pf : Nat → Option (Nat × Nat)} (ho : o.op = .build t parts) (hi : P.info? t = some it) (hz : it.zero = some z) (hzs : scsOk z.cells.toList zs = true) (hpf : plOf P t = some pf)
    (hps : partsOk pf parts.toList ps = true) (h : evI H (.bd zs ps) d E M k = some r) : Snd r k P F n w1 B M σ w a o d := by
  simp only [evI] at h
  split at h
  · rename_i vs hvs
    split at h
    · rename_i cs hcs
      simp only [cond_eq_ite] at h
      split at h
      · rename_i hsc
        obtain ⟨h1, h2⟩ := scsOk_sound (c := cx B M σ w) hzs
        obtain ⟨cs', e, hr⟩ := fills_sound (parts_sound en hps hvs) hcs h1
        have hb : P.built t (parts.map fun (i, x) => (i, a.eval x)).toList = some cs'.toArray := by
          rw [built_eq hi hz hpf]
          simpa using e
        have := run_build w t _ _ hb
        refine Snd.pure hF (by simp [ho]) sm h (v' := .agg cs'.toArray) ?_ (.agg cs cs' hsc hr)
        simp only [execOp, ho, Sem.run_bind, this, Result.andThen_ok, Sem.run_pure]
      · simp at h
    · simp at h
  · simp at h
end
theorem bor_mono : ∀ (n : Nat) (v : V), borV (n + 1) v = true → borV n v = true
  | 0, _, _ => rfl
  | n + 1, v, h => by
    have lists : ∀ {cs : List V}, cs.any (borV (n + 1)) = true → cs.any (borV n) = true := fun {cs} h1 => by
      simp only [List.any_eq_true] at h1 ⊢
      obtain ⟨x, hx, hb⟩ := h1
      exact ⟨x, hx, bor_mono n x hb⟩
    cases v <;> simp only [borV] at h ⊢ <;> first | exact lists h | exact h
theorem bor_cells {v : V} {y : V} (hy : y ∈ v.cells) (hb : borV 5 y = true) : borV 5 v = true := by
  cases v <;> simp only [V.cells, List.mem_singleton] at hy <;> (try (subst hy; exact hb))
  rename_i cs
  simp only [borV, List.any_eq_true]
  exact ⟨y, hy, bor_mono 4 y hb⟩
/-- The parts of a slice, one after the other. -/
def bslOk : Nat → List (Nat × Operand) → List Opd → Bool
  | _, [], [] => true
  | j, (i, x) :: r, y :: s => Nat.beq i j && opdOk x y && bslOk (j + 1) r s
  | _, _, _ => false
theorem fill_row {c : Cx} {E : Nat → Option V} {a : Act} (en : EnvR c E a) {t : Ty} {bor : Bool} : ∀ {l : List (Nat × Operand)} {m : List Opd} {j : Nat}, bslOk j l m = true → ∀ {vs : List V} {xs : List (T t)}, evs E m = some vs → mapO (fun v => packAll t v.cells) vs = some xs → (∀ v, v ∈ vs → borV 5 v = true → bor = true) →
    ∃ cs', VRs c (xs.flatMap (unpack bor t)) cs' ∧ xs.length = l.length ∧ ∀ (p mm : List Value), p.length = j * tsize t → mm.length = l.length * tsize t →
      Instr.fill (fun i => some (i * tsize t, tsize t)) (p ++ mm).toArray (l.map fun q => (q.1, a.eval q.2)) = some (p ++ cs').toArray
  | [], [], j, _, vs, xs, h, hx, hb => by
    simp [evs, mapO] at h; subst h
    simp [mapO] at hx; subst hx
    refine ⟨[], .nil, rfl, fun p mm hp hm => ?_⟩
    have : mm = [] := List.eq_nil_of_length_eq_zero (by simpa using hm)
    subst this
    simp [Instr.fill]
  | (i, x) :: r, y :: s, j, ho, vs, xs, h, hx, hb => by
    simp only [bslOk, Bool.and_eq_true, Nat.beq_eq] at ho
    obtain ⟨⟨rfl, h2⟩, h3⟩ := ho
    obtain ⟨v, vs', h4, h5, rfl⟩ := mapO_cons h
    obtain ⟨z, zs, h6, h7, rfl⟩ := mapO_cons hx
    have hv := opd_sound en h2 h4
    have hcv := packAll_sound (bor := bor) h6 (cells_any hv) fun y2 hy2 hb2 => hb v (by simp) (bor_cells hy2 hb2)
    obtain ⟨cs', hr, hl, hf⟩ := fill_row en h3 h5 h7 fun u hu => hb u (by simp [hu])
    have hsz : (a.eval x).cells.size = tsize t := by
      have := hcv.length
      rw [length_unpack] at this
      simpa using this.symm
    refine ⟨(a.eval x).cells.toList ++ cs', by simpa using hcv.append hr, by simp [hl], fun p mm hp hm => ?_⟩
    simp only [List.length_cons, Nat.add_mul, Nat.one_mul] at hm
    have hmm : mm = mm.take (tsize t) ++ mm.drop (tsize t) := (List.take_append_drop _ _).symm
    simp only [List.map_cons, Instr.fill]
    have hb' : (decide ((a.eval x).cells.size ≠ tsize t) || decide (i * tsize t + (a.eval x).cells.size > (p ++ mm).toArray.size)) ≠ true := by
      intro hh
      simp only [Bool.or_eq_true, decide_eq_true_eq, List.size_toArray, List.length_append] at hh
      omega
    rw [if_neg hb']
    have hf1 := fill_one (cs := (a.eval x).cells) (off := i * tsize t) (p := p) (m := mm.take (tsize t)) (q := mm.drop (tsize t)) hp (by rw [List.length_take]; omega)
    rw [List.append_assoc, List.take_append_drop] at hf1
    have hf2 := hf (p ++ (a.eval x).cells.toList) (mm.drop (tsize t)) (by simp [hp, hsz, Nat.add_mul]) (by rw [List.length_drop]; omega)
    rw [List.append_assoc p (a.eval x).cells.toList cs'] at hf2
    rw [← hf2]
    congr 1
  | [], _ :: _, _, ho, _, _, _, _, _ => by simp [bslOk] at ho
  | _ :: _, [], _, ho, _, _, _, _, _ => by simp [bslOk] at ho
section
variable {R : Type} {H : Hk R} {r : R} {k : V → Eff → Option R} {P : Program} {F : Fence} {n : Nat} {w1 : World} {B : Nat → Prop} {M : Nat → Option Blk} {σ : Nat → Slot} {w : World} {a : Act} {o : Oper} {d : Nat} {E : Nat → Option V}
variable (hF : ∀ f, F.fn f) (hd : F.depth = none) (sm : Sm w1 B M σ w) (en : EnvR (cx B M σ w) E a)
include hF sm en
theorem one_bsl {t e : TypeId} {ty : Ty} {own : Bool} {len : Nat} {parts : Array (Nat × Operand)} {ps : List Opd} {it : TypeInfo} {z : Value} (ho : o.op = .buildSlice t len parts) (ht : P.underlying t = some (.slice e)) (hi : P.info? e = some it) (hz : it.zero = some z) (hsz : it.size = tsize ty)
    (hlim : len * tsize ty ≤ 2 ^ 24) (hlen : parts.toList.length = len) (hps : bslOk 0 parts.toList ps = true) (h : evI H (.bsl ty own ps) d E M k = some r) : Snd r k P F n w1 B M σ w a o d := by
  simp only [evI] at h
  split at h
  · rename_i vs hvs
    split at h
    · rename_i xs hxs
      -- the run
      have run : ∀ (bor : Bool), (∀ v, v ∈ vs → borV 5 v = true → bor = true) → ∃ cs', VRs (cx B M σ w) (xs.flatMap (unpack bor ty)) cs' ∧ xs.length = len ∧
          (execOp a.eval o).run P w = .ok (.value (.slice (some ⟨w.heap.size, 0, none⟩) len len)) (w.alloc (.cells cs'.toArray e)) := by
        intro bor hb
        obtain ⟨cs', hr, hl, hf⟩ := fill_row (a := a) en hps hvs hxs hb
        refine ⟨cs', hr, hl.trans hlen, ?_⟩
        have hno : ¬ (2 ^ 24 < len * tsize ty) := by omega
        have key : ∀ (zero : Array Value), Instr.fill (fun i => some (i * tsize ty, tsize ty)) ((Array.range (len * tsize ty)).map (zero[· % zero.size]!)) (parts.map fun (i, x) => (i, a.eval x)).toList = some cs'.toArray := by
          intro zero
          have := hf [] ((Array.range (len * tsize ty)).map (zero[· % zero.size]!)).toList (by simp) (by simp [hlen])
          have e1 : (parts.map fun (i, x) => (i, a.eval x)).toList = parts.toList.map fun q => (q.1, a.eval q.2) := by simp
          simp only [List.nil_append, Array.toArray_toList] at this
          rw [e1]
          exact this
        simp only [execOp, ho, Instr.buildSlice, Sem.run_bind, run_und ht, Result.andThen_ok, sizeOf, run_info hi, hsz, Sem.run_ite, Sem.run_pure]
        rw [if_neg (by omega)]
        by_cases h0 : len * tsize ty = 0
        · rw [if_pos h0]
          simp only [Sem.run_pure, Result.andThen_ok, key, newRow, Sem.run_bind, run_newObj, World.alloc_eq]
        · rw [if_neg h0]
          simp only [zeroValue, Sem.run_bind, run_info hi, hz, Sem.run_pure, Result.andThen_ok, key, newRow, run_newObj, World.alloc_eq]
      have hnew : ∀ cs' : List Value, (w.alloc (.cells cs'.toArray e)).heap[w.heap.size]? = some (.cells cs'.toArray e (0, 0)) := by
        intro cs'
        show (w.heap.push _)[w.heap.size]? = _
        simp
      have hbel : ∀ cs' : List Value, Below w.heap.size w (w.alloc (.cells cs'.toArray e)) := fun cs' => (Below.refl _ _).alloc (Nat.le_refl _) _
      cases own with
      | true =>
        simp only [cond_true] at h
        cases hnb : vs.any (borV 5) with
        | true => rw [hnb] at h; simp at h
        | false =>
          rw [hnb] at h
          simp only [cond_false] at h
          obtain ⟨cs', hv, hl, hr⟩ := run false (fun v hv hb => by
            rw [List.any_eq_false] at hnb
            exact absurd hb (hnb v hv))
          refine Snd.value hF (by simp [ho]) h hr ?_
          by_cases h0 : xs = []
          · subst h0
            simp only [List.length_nil] at hl
            subst hl
            exact post_row_nil sm (hbel cs')
          · have := post_row (d := d) sm (hbel cs') (Nat.le_refl _) (by simp) (l := xs) (cs' := cs') (rest := []) (by simpa using hnew cs') hv (cap := xs.length) (Nat.le_refl _) h0 (by
              have := hv.length
              rw [length_flat] at this
              simp [this])
            rw [hl] at this
            exact this
      | false =>
        simp only [cond_false] at h
        obtain ⟨cs', hv, hl, hr⟩ := run (vs.any (borV 5)) (fun v hv hb => by
          rw [List.any_eq_true]
          exact ⟨v, hv, hb⟩)
        refine Snd.value hF (by simp [ho]) h hr (post_below sm (hbel cs') ?_)
        by_cases h0 : xs = []
        · subst h0
          simp only [List.length_nil] at hl
          subst hl
          exact .slE _ _ _ _ _ fun _ => rfl
        · obtain ⟨s, L⟩ := sm.step (hbel cs')
          have hno : ¬ Ge.own M σ w.heap.size := by
            rintro ⟨k2, blk, e1, e2, e3⟩
            have := (sm.base k2 blk e1 e2).2
            omega
          have := VR.slN (c := cx B M σ (w.alloc (.cells cs'.toArray e))) ty xs (vs.any (borV 5)) true w.heap.size 0 len cs' (by simp [cx]) hno (fun _ hB => by
            have := sm.bB _ hB
            have := sm.below.size
            omega) (by omega) (fun _ => hl.symm) (by
              have := take_cells (w := w.alloc (.cells cs'.toArray e)) (b := w.heap.size) (cs' := cs') (rest := []) (e := e) (f := (0, 0)) (by rw [List.append_nil]; exact hnew cs')
              exact this) (rowVals_later L hv)
          rw [hl] at this
          exact this
    · simp at h
  · simp at h
end
end Go.Ge
