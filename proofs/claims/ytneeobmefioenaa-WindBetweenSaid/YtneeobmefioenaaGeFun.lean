/- Functions: a caller may count on what the evaluator says. -/
import Derived.Test.YtneeobmefioenaaGeBody
import Derived.RangeFuncLeaves
namespace Go.Ge
open Go Go.RowKit

theorem pure_mono : ∀ (n : Nat) (v : V), pureV n v = true → pureV (n + 1) v = true
  | 0, v, h => by simp [pureV] at h
  | n + 1, v, h => by
    have lists : ∀ {cs : List V}, cs.all (pureV n) = true → cs.all (pureV (n + 1)) = true := fun {cs} h1 => by
      rw [List.all_eq_true] at h1 ⊢
      exact fun x hx => pure_mono n x (h1 x hx)
    cases v
    case fn f cs => simp only [pureV] at h; exact lists h
    case agg cs => simp only [pureV] at h; exact lists h
    case tup cs => simp only [pureV] at h; exact lists h
    case pc cs o b =>
      simp only [pureV, Bool.and_eq_true] at h
      have := lists h.2
      rw [pureV, Bool.and_eq_true]
      exact ⟨h.1, this⟩
    all_goals exact h
/-! ### An answer there is -/
theorem applyE_ex {R : Type} {r : R} {dst : Option Nat} {v : V} {e : Eff} {env : Env} {mem : Mem} {kk : Env → Mem → Option R} (h : applyE dst v e env mem kk = some r) : ∃ env' mem', kk env' mem' = some r := by
  unfold applyE cutE at h
  simp only [cond_eq_ite] at h
  repeat' split at h
  all_goals first
    | exact ⟨_, _, h⟩
    | (simp at h; done)
theorem nxt_ex {R α : Type} {H : Hk R} {r : R} {P : Program} (HC : CallLaw P H r) {l : List α} {f : Nat → Option R} (h : H.J ((List.range l.length).map f) = some r) (hne : l = [] → False) : ∃ x xs, l = x :: xs ∧ f 0 = some r := by
  cases l with
  | nil => exact absurd rfl hne
  | cons x xs => exact ⟨x, xs, rfl, HC.join _ h _ (List.mem_map.2 ⟨0, by simp, rfl⟩)⟩
theorem evI_ex {R : Type} {H : Hk R} {r : R} {P : Program} (HC : CallLaw P H r) {i : I} {d : Nat} {E : Nat → Option V} {M : Nat → Option Blk} {k : V → Eff → Option R} (h : evI H i d E M k = some r) : ∃ v e, k v e = some r := by
  cases hpl : plainI i with
  | true =>
    rw [evI_bind hpl] at h
    cases hd : evD i d E M with
    | none => rw [hd] at h; simp at h
    | some p => rw [hd] at h; exact ⟨_, _, h⟩
  | false =>
    cases i <;> (try (simp [plainI, nmI, roI, wrI] at hpl; done)) <;> simp only [evI, rowK, cond_eq_ite] at h <;> (repeat' split at h) <;> (try (simp at h; done)) <;>
      first
        | exact ⟨_, _, h⟩
        | (obtain ⟨-, v, -, hv⟩ := HC.call _ _ _ h; exact ⟨_, _, hv⟩)
        | (obtain ⟨l', hv⟩ := HC.sortEx _ _ _ _ _ h; exact ⟨_, _, hv⟩)
        | exact ⟨_, _, HC.join _ h _ (List.mem_cons_self ..)⟩
        | (obtain ⟨x, xs, hl, h0⟩ := nxt_ex HC h (by assumption)
           simp only [hl, List.getElem?_cons_zero] at h0
           repeat' split at h0
           all_goals first
             | (simp at h0; done)
             | exact ⟨_, _, h0⟩)
theorem mcE_ex {R : Type} {r : R} {q : Nat} {k : V → Env → Mem → Option R} {v : V} {mem : Mem} (h : mcE q k v mem = some r) : ∃ v env mem, k v env mem = some r := by
  unfold mcE at h
  split at h
  · exact ⟨_, _, _, h⟩
  · simp at h
theorem evIs_ex {R : Type} {H : Hk R} {r : R} {P : Program} (HC : CallLaw P H r) (HM : MLaw P H r) {Y : Yt R} (hY : YEx r Y) {dp : Nat} : ∀ {is : List II} {env : Env} {mem : Mem} {kk : Env → Mem → Option R}, evIs H Y dp is env mem kk = some r → ∃ env' mem', kk env' mem' = some r
  | [], env, mem, kk, h => ⟨env, mem, h⟩
  | x :: rx, env, mem, kk, h => by
    simp only [evIs] at h
    split at h
    · rename_i env1 mem1 _
      rw [want_eq] at h
      cases hw : wantF (fun t => lk t env1) x.g with
      | none => rw [hw] at h; simp at h
      | some b =>
        rw [hw] at h
        simp only [Option.bind_some] at h
        cases b with
        | false => exact evIs_ex HC HM hY h
        | true =>
          dsimp only at h
          split at h
          · unfold mcK at h
            simp only [cond_eq_ite] at h
            split at h
            · split at h
              · split at h
                · obtain ⟨v, mem2, h2⟩ := HM.ex _ _ _ _ _ _ h hY
                  obtain ⟨_, _, _, h3⟩ := mcE_ex h2
                  exact evIs_ex HC HM hY h3
                · simp at h
              · split at h
                · obtain ⟨v, mem2, h2⟩ := hY _ _ _ _ _ h
                  obtain ⟨_, _, _, h3⟩ := mcE_ex h2
                  exact evIs_ex HC HM hY h3
                · simp at h
              · simp at h
            · simp at h
          · obtain ⟨v, e, ha⟩ := evI_ex HC h
            obtain ⟨e2, m2, h2⟩ := applyE_ex ha
            exact evIs_ex HC HM hY h2
    · simp at h
theorem loop_ex {R : Type} {r : R} {body : Env → Mem → (Ex → Env → Mem → Option R) → Option R} (hb : ∀ {env mem k}, body env mem k = some r → ∃ ex env' mem', k ex env' mem' = some r) : ∀ {n : Nat} {env : Env} {mem : Mem} {k : Ex → Env → Mem → Option R}, loopK body n env mem k = some r → ∃ ex env' mem', k ex env' mem' = some r
  | 0, _, _, _, h => by simp [loopK] at h
  | n + 1, env, mem, k, h => by
    simp only [loopK] at h
    obtain ⟨ex, env', mem', hk⟩ := hb h
    cases ex with
    | normal => exact loop_ex hb hk
    | exit id => exact ⟨_, _, _, hk⟩
    | ret => exact ⟨_, _, _, hk⟩
theorem evC_ex {R : Type} {H : Hk R} {r : R} {P : Program} (HC : CallLaw P H r) (HM : MLaw P H r) : ∀ (ic : IC) {Y : Yt R} (_ : YEx r Y) {dp : Nat} {env : Env} {mem : Mem} {k : Ex → Env → Mem → Option R}, evC H Y ic dp env mem k = some r → ∃ ex env' mem', k ex env' mem' = some r := by
  intro ic
  induction ic with
  | skip => intro Y hY dp env mem k h; exact ⟨_, _, _, h⟩
  | reg is live keys =>
    intro Y hY dp env mem k h
    obtain ⟨_, _, h2⟩ := evIs_ex HC HM hY h
    exact ⟨_, _, _, h2⟩
  | dreg is ord live keys =>
    intro Y hY dp env mem k h
    simp only [evC] at h
    cases hold : oldOk is env mem with
    | false => rw [hold] at h; simp at h
    | true =>
      rw [hold, cond_true] at h
      obtain ⟨_, _, h2⟩ := evIs_ex HC HM hY h
      exact ⟨_, _, _, h2⟩
  | seq a b iha ihb =>
    intro Y hY dp env mem k h
    obtain ⟨ex, _, _, h2⟩ := iha hY h
    cases ex with
    | normal => exact ihb hY h2
    | exit id => exact ⟨_, _, _, h2⟩
    | ret => exact ⟨_, _, _, h2⟩
  | cond c a b iha ihb =>
    intro Y hY dp env mem k h
    simp only [evC] at h
    split at h
    · rename_i b2 _
      cases b2 with
      | true => exact iha hY h
      | false => exact ihb hY h
    · simp at h
  | block id c ih =>
    intro Y hY dp env mem k h
    obtain ⟨ex, _, _, h2⟩ := ih hY h
    cases ex with
    | normal => exact ⟨_, _, _, h2⟩
    | exit id2 =>
      dsimp only at h2
      cases hb : Nat.beq id2 id with
      | true => rw [hb, cond_true] at h2; exact ⟨_, _, _, h2⟩
      | false => rw [hb, cond_false] at h2; exact ⟨_, _, _, h2⟩
    | ret => exact ⟨_, _, _, h2⟩
  | loop c ih =>
    intro Y hY dp env mem k h
    exact loop_ex (fun {env mem k} h => ih hY h) h
  | rf f ps asg body iha ihb =>
    intro Y hY dp env mem k h
    simp only [evC, cond_eq_ite] at h
    split at h
    · split at h
      · rename_i g caps hg
        have hY2 : YEx r (rfY (BIG + dp) ps (fun dp env mem k => evC H Y asg dp env mem k) (fun dp env mem k => evC H Y body dp env mem k) Y) := by
          intro q vs d mem2 kk h2
          unfold rfY at h2
          simp only [cond_eq_ite] at h2
          split at h2
          · split at h2
            · split at h2
              · obtain ⟨ex, env3, mem3, h3⟩ := iha hY h2
                cases ex with
                | exit id => simp at h3
                | ret => simp at h3
                | normal =>
                  dsimp only at h3
                  split at h3
                  · obtain ⟨ex, env4, mem4, h4⟩ := ihb hY h3
                    unfold rfE at h4
                    split at h4
                    · cases ex <;> exact ⟨_, _, h4⟩
                    · simp at h4
                  · simp at h3
              · simp at h2
            · simp at h2
          · exact hY _ _ _ _ _ h2
        obtain ⟨v, mem2, h2⟩ := HM.ex _ _ _ _ _ _ h hY2
        unfold rfK at h2
        split at h2
        · rename_i ls env2 _
          cases ls
          · exact ⟨_, _, _, h2⟩
          · simp at h2
          · exact ⟨_, _, _, h2⟩
          · exact ⟨_, _, _, h2⟩
        · simp at h2
      · simp at h
    · simp at h
  | exit id => intro Y hY dp env mem k h; exact ⟨_, _, _, h⟩
  | ret => intro Y hY dp env mem k h; exact ⟨_, _, _, h⟩

/-! ### Results -/
def resOk (P : Program) : ResultVar → Res → Bool
  | .tmp t, .t n => Nat.beq t n
  | .cell a t, .c n sz ag => Nat.beq a n && szIs P t sz && agIs P t ag
  | _, _ => false
def ressOk (P : Program) : List ResultVar → List Res → Bool
  | [], [] => true
  | a :: r, b :: s => resOk P a b && ressOk P r s
  | _, _ => false
def funcOk (P : Program) (fn : Func) (f : IF) : Bool :=
  (match fn.body with | some c => codeOk P fn.ntmps false c f.body | none => false) && Nat.ble fn.ntmps BIG && !(fn.name == "runtime.NumGoroutine") && Nat.ble f.np fn.ntmps && ressOk P fn.results.toList f.res
section
variable {P : Program} {w1 : World} {B : Nat → Prop} {N : Nat} {D : Fr} {env : Env} {mem : Mem} {σ : Nat → Slot} {a : Act} {w : World}
def readRes (P : Program) (tmps : Array Value) : ResultVar → Sem Value
  | .tmp t => pure (tmps.getD t undef)
  | .cell a t => do loadVar t (← asAddr (tmps.getD a undef))
theorem res_sound (sm : Sm w1 B (eM mem) σ w) (en : EnvR (cx B (eM mem) σ w) (eE env) a) {x : ResultVar} {y : Res} (hok : resOk P x y = true) {v : V} (h : resK (fun t => lk t env) (fun b => lk b mem) y = some v) : ∃ v', (readRes P a.tmps x).run P w = .ok v' w ∧ VR (cx B (eM mem) σ w) v v' := by
  cases x <;> cases y <;> simp only [resOk] at hok <;> (try (simp at hok; done))
  · simp only [Nat.beq_eq] at hok
    subst hok
    simp only [resK] at h
    obtain ⟨v', h1, h2⟩ := en _ v h
    exact ⟨v', by simp [readRes, Array.getD_eq_getD_getElem?, h1], h2⟩
  · simp only [Bool.and_eq_true, Nat.beq_eq] at hok
    obtain ⟨⟨rfl, h2⟩, h3⟩ := hok
    simp only [resK] at h
    split at h
    · rename_i p hp
      obtain ⟨p', e1, e2⟩ := en _ p hp
      obtain ⟨v2, b, off, m, m', hk, hp', hof, hs, hv, hc, hl⟩ := ldK_spec sm e2 h
      simp only [Option.some.injEq] at hk
      subst hk
      have hg := (show ∀ i, a.tmps[i]? = some p' → a.tmps.getD i undef = p' from fun i h => by simp only [Array.getD_eq_getD_getElem?, h, Option.getD_some]) _ e1
      rcases of_sound hof hs hv with ⟨rfl, hr⟩ | ⟨rfl, z, rfl, hr⟩
      · exact ⟨_, by simp only [readRes, hg, hp', asAddr, Sem.run_bind, Sem.run_pure, Result.andThen_ok, run_loadVar_agg (agIs_eq h3) (szIs_eq h2) hl hc], hr⟩
      · exact ⟨_, by simp only [readRes, hg, hp', asAddr, Sem.run_bind, Sem.run_pure, Result.andThen_ok, run_loadVar_one (agIs_eq h3) hc], hr⟩
    · simp at h
theorem ress_sound (sm : Sm w1 B (eM mem) σ w) (en : EnvR (cx B (eM mem) σ w) (eE env) a) : ∀ {xs : List ResultVar} {ys : List Res}, ressOk P xs ys = true → ∀ {vs : List V}, mapO (resK (fun t => lk t env) fun b => lk b mem) ys = some vs → ∃ vs', (xs.mapM (readRes P a.tmps)).run P w = .ok vs' w ∧ VRs (cx B (eM mem) σ w) vs vs'
  | [], [], _, vs, h => by simp [mapO] at h; subst h; exact ⟨[], by simp, .nil⟩
  | x :: r, y :: s, hok, vs, h => by
    simp only [ressOk, Bool.and_eq_true] at hok
    obtain ⟨v, vs2, h1, h2, rfl⟩ := mapO_cons h
    obtain ⟨v', r1, hv⟩ := res_sound sm en hok.1 h1
    obtain ⟨vs', r2, hvs⟩ := ress_sound sm en hok.2 h2
    exact ⟨v' :: vs', by simp [r1, r2], .cons hv hvs⟩
  | [], _ :: _, hok, _, _ => by simp [ressOk] at hok
  | _ :: _, [], hok, _, _ => by simp [ressOk] at hok
end
theorem mapM_pure {vs vs2 : List V} {M : Nat → Option Blk} (h : mapO (snap false M 4) vs = some vs2) : vs2.all (pureV 4) = true := mapO_all h fun x y _ e => snap_pure 4 x y e
theorem vrs_tup {c : Cx} {vs : List V} {vs' : List Value} (h : VRs c vs vs') : VR c (tupOf vs) (if h : vs'.toArray.size = 1 then vs'.toArray[0] else .tuple vs'.toArray) := by
  cases h with
  | nil => simp only [tupOf]; exact .tup [] [] .nil
  | cons h1 h2 =>
    cases h2 with
    | nil => simpa [tupOf] using h1
    | cons h3 h4 =>
      have := VR.tup _ _ (VRs.cons h1 (VRs.cons h3 h4))
      simpa [tupOf] using this
theorem pure_tup {vs : List V} (h : vs.all (pureV 4) = true) : pureV 5 (tupOf vs) = true := by
  match vs, h with
  | [], _ => rfl
  | [v], h => simp only [List.all_cons, List.all_nil, Bool.and_true] at h; exact pure_mono 4 v h
  | v :: u :: r, h => exact h
theorem tuple_list {vs' : List Value} : (if h : vs'.toArray.size = 1 then vs'.toArray[0] else Value.tuple vs'.toArray) = (if h : vs'.toArray.size = 1 then vs'.toArray[0] else Value.tuple vs'.toArray) := rfl
/-! ### The marks of loops are come to -/
def shutW : List Nat → World → World
  | [], w => w
  | r :: rs, w => shutW rs (w.putObj r (.deferred none))
theorem leaves_marks {P : Program} {fn : Func} {tmps : Array Value} {n : Nat} {R' : Ending → World → Prop} : ∀ {rs : List Nat} {w : World}, rs.Nodup → (∀ r, r ∈ rs → w.heap[r]? = some (.deferred (some []))) → LeavesInM Fence.wide n P fn tmps R' [] .returning (shutW rs w) →
    LeavesInM Fence.wide n P fn tmps R' (rs.map markOf) .returning w
  | [], w, _, _, h => h
  | r :: rs, w, hn, hh, h => by
    obtain ⟨h1, h2⟩ := List.nodup_cons.1 hn
    refine ⟨by simp, .inl ⟨r, _, rfl, run_takeDeferred (hh r (by simp)), leaves_marks h2 (fun x hx => ?_) h⟩⟩
    rw [World.putObj_heap_other (by rintro rfl; exact h1 hx)]
    exact hh x (by simp [hx])
section
variable {c : Cx} {w' : World}
mutual
theorem VR.turn (hsz : c.w.heap.size ≤ w'.heap.size) (hcell : ∀ a v, c.w.cell? a = some v → w'.cell? a = some v) : ∀ {v : V} {v' : Value}, VR c v v' → VR { c with w := w' } v v'
  | _, _, .b x => .b x
  | _, _, .i k n => .i k n
  | _, _, .s x => .s x
  | _, _, .slE t bor ex a cap hx => .slE t bor ex a cap hx
  | _, _, .slN t l bor ex blk off cap cs hb ho hB hcap hx hc hs => .slN t l bor ex blk off cap cs (Nat.lt_of_lt_of_le hb hsz) ho hB hcap hx (fun j v hj => hcell _ _ (hc j v hj)) (VRs.turn hsz hcell hs)
  | _, _, .agg cs cs' hs h => .agg cs cs' hs (VRs.turn hsz hcell h)
  | _, _, .tup cs cs' h => .tup cs cs' (VRs.turn hsz hcell h)
  | _, _, .pc cs off bor blk o cs' hb ho hB hs hc h => .pc cs off bor blk o cs' (Nat.lt_of_lt_of_le hb hsz) ho hB hs (fun j v hj => hcell _ _ (hc j v hj)) (VRs.turn hsz hcell h)
  | _, _, .pz => .pz
  | _, _, .pb k off => .pb k off
  | _, _, .pr k idx sz off => .pr k idx sz off
  | _, _, .bs k => .bs k
  | _, _, .fn f cs cs' h => .fn f cs cs' (VRs.turn hsz hcell h)
  | _, _, .fz => .fz
  | _, _, .mp k => .mp k
  | _, _, .mz => .mz
  | _, _, .it k => .it k
  | _, _, .nif => .nif
  | _, _, .yf q => .yf q
theorem VRs.turn (hsz : c.w.heap.size ≤ w'.heap.size) (hcell : ∀ a v, c.w.cell? a = some v → w'.cell? a = some v) : ∀ {xs : List V} {xs' : List Value}, VRs c xs xs' → VRs { c with w := w' } xs xs'
  | _, _, .nil => .nil
  | _, _, .cons h hs => .cons (VR.turn hsz hcell h) (VRs.turn hsz hcell hs)
end
theorem VarsR.turn (hsz : c.w.heap.size ≤ w'.heap.size) (hcell : ∀ a v, c.w.cell? a = some v → w'.cell? a = some v) {e : List (Nat × V)} {tm : Array Value} (h : VarsR c e tm) : VarsR { c with w := w' } e tm := fun t v ht => by
  obtain ⟨v', h1, h2⟩ := h t v ht
  exact ⟨v', h1, h2.turn hsz hcell⟩
theorem MapR.turn (hsz : c.w.heap.size ≤ w'.heap.size) (hcell : ∀ a v, c.w.cell? a = some v → w'.cell? a = some v) {ka va : Bool} {kt vt : Ty} {l : List (T kt × T vt)} {es : Array MapEntry} {clock : Nat} (h : MapR c ka va kt vt l es clock) : MapR { c with w := w' } ka va kt vt l es clock :=
  ⟨h.size, h.clock, fun j p hp => by obtain ⟨e, a, v, h1, h2, h3, h4, h5, h6⟩ := h.at_ j p hp; exact ⟨e, a, v, h1, h2, h3, h4.turn hsz hcell, h5, h6.turn hsz hcell⟩⟩
end
/-- A block of deferred calls is shut. -/
theorem Sm.turn {w1 : World} {B : Nat → Prop} {M : Nat → Option Blk} {σ : Nat → Slot} {w : World} (h : Sm w1 B M σ w) {d : Nat} (hd : w.heap[d]? = some (.deferred (some []))) (hn : w1.heap.size ≤ d) (ho : ¬ own M σ d) :
    Sm w1 B M σ (w.putObj d (.deferred none)) ∧ ∀ a v, w.cell? a = some v → (w.putObj d (.deferred none)).cell? a = some v := by
  have hne : ∀ (r : Nat) (o : Obj), w.heap[r]? = some o → (∀ x, o ≠ .deferred x) → (w.putObj d (.deferred none)).heap[r]? = some o := fun r o h1 h2 => by
    rw [World.putObj_heap_other (by rintro rfl; rw [hd] at h1; simp only [Option.some.injEq] at h1; exact h2 _ h1.symm)]
    exact h1
  have hcell : ∀ a v, w.cell? a = some v → (w.putObj d (.deferred none)).cell? a = some v := fun a v ha => by
    have hne2 : a.block ≠ d := by
      intro e
      unfold World.cell? at ha
      rw [e, hd] at ha
      simp at ha
    rw [cell_of_heap (World.putObj_heap_other hne2)]
    exact ha
  have hsz : w.heap.size ≤ (w.putObj d (.deferred none)).heap.size := by rw [World.putObj_size]; exact Nat.le_refl _
  refine ⟨⟨h.below.trans ⟨rfl, rfl, ⟨rfl, Nat.le_refl _⟩, by rw [World.putObj_size]; exact Nat.le_refl _, fun i hi => World.putObj_heap_other (by omega)⟩, h.bB, fun k blk h1 h2 => by rw [World.putObj_size]; exact h.base k blk h1 h2, h.inj, fun k blk hk => ?_⟩, hcell⟩
  have hb := h.blk k blk hk
  cases blk with
  | cells cs => obtain ⟨h1, cs', e, h2, h3⟩ := hb; exact ⟨h1, cs', e, hne _ _ h2 (by simp), h3.turn hsz hcell⟩
  | row t l =>
    cases l with
    | nil => exact hb
    | cons x xs => obtain ⟨cs', rest, e, cap, h1, h2, h3, h4, h5⟩ := hb; exact ⟨cs', rest, e, cap, hne _ _ h1 (by simp), h2.turn hsz hcell, h3, h4, h5⟩
  | buf t => obtain ⟨cs', e, cap, h1, h2, h3⟩ := hb; exact ⟨cs', e, cap, hne _ _ h1 (by simp), h2, h3⟩
  | map ka va kt vt l lo => obtain ⟨es, clock, h1, h2⟩ := hb; exact ⟨es, clock, hne _ _ h1 (by simp), h2.turn hsz hcell⟩
  | itr m ka va kt vt l cur =>
    obtain ⟨lf, es, clock, since, seen, stepped, he, hlt, hM, hes, hr, q1, q2, q3, q4⟩ := hb
    exact ⟨lf, es, clock, since, seen, stepped, hne _ _ he (by simp), Nat.lt_of_lt_of_le hlt hsz, hM, hne _ _ hes (by simp), hr.turn hsz hcell, q1, q2, q3, q4⟩
  | stk e => exact VarsR.turn (c := cx B M σ w) hsz hcell hb
  | lp st e => obtain ⟨L, h1, h2, h3⟩ := hb; exact ⟨L, h1, hne _ _ h2 (by simp), h3.turn hsz hcell⟩
theorem shut_sound {w1 : World} {B : Nat → Prop} {M : Nat → Option Blk} {σ : Nat → Slot} {E : Nat → Option V} {a : Act} {c0 : Cx} (h0 : w1.heap.size ≤ c0.w.heap.size) : ∀ {rs : List Nat} {w : World}, rs.Nodup → (∀ r, r ∈ rs → c0.w.heap.size ≤ r ∧ w.heap[r]? = some (.deferred (some [])) ∧ ¬ own M σ r) →
    Sm w1 B M σ w → EnvR (cx B M σ w) E a → Later c0 (cx B M σ w) → Sm w1 B M σ (shutW rs w) ∧ EnvR (cx B M σ (shutW rs w)) E a ∧ Later c0 (cx B M σ (shutW rs w))
  | [], w, _, _, h1, h2, h3 => ⟨h1, h2, h3⟩
  | r :: rs, w, hn, hr, h1, h2, h3 => by
    obtain ⟨n1, n2⟩ := List.nodup_cons.1 hn
    obtain ⟨r1, r2, r3⟩ := hr r (by simp)
    obtain ⟨s, hcell⟩ := h1.turn r2 (Nat.le_trans h0 r1) r3
    refine shut_sound (rs := rs) (w := w.putObj r (.deferred none)) h0 n2 (fun x hx => ?_) s (fun t v ht => ?_) ⟨by simp only [cx, World.putObj_size]; exact h3.size, fun x hx ho => ?_, h3.own, h3.B⟩
    · obtain ⟨a1, a2, a3⟩ := hr x (by simp [hx])
      exact ⟨a1, by rw [World.putObj_heap_other (by rintro rfl; exact n1 hx)]; exact a2, a3⟩
    · obtain ⟨v', e1, e2⟩ := h2 t v ht
      exact ⟨v', e1, VR.turn (c := cx B M σ w) (by rw [World.putObj_size]; exact Nat.le_refl _) hcell e2⟩
    · show (w.putObj r _).heap[x]? = _
      rw [World.putObj_heap_other (by omega)]
      exact h3.heap x hx ho
section
variable {R : Type} {H : Hk R} {r : R} {P : Program}
/-- A body, walked from the state in which it is entered. -/
theorem body_sound (HC : CallLaw P H r) (HM : MLaw P H r) (hm : P.follows .mixedOrders = true) {fn : Func} {F : IF} (hok : funcOk P fn F = true) {w1 : World} {B : Nat → Prop} {mem : Mem} {σ : Nat → Slot} {w : World} {d : Nat} {Y : Yt R} (hY : YLaw P w1 B r Y d σ)
    (sm : Sm w1 B (eM mem) σ w) {vs : List V} {args' : List Value} (hlen : vs.length = F.np) (hv : VRs (cx B (eM mem) σ w) vs args') {k : Ex → Env → Mem → Option R} (h : evC H Y F.body d (start vs) mem k = some r) {c : Code} (hc : fn.body = some c) {n : Nat} {R' : Ending → World → Prop}
    (hfin : ∀ ex env' mem' σ' (a' : Act) w', k ex env' mem' = some r → Sm w1 B (eM mem') σ' w' → EnvR (cx B (eM mem') σ' w') (eE env') a' → Later (cx B (eM mem) σ w) (cx B (eM mem') σ' w') → StkSame d σ σ' →
      ∃ v', (results fn a'.tmps).run P w' = .ok v' w' ∧ R' (.returned v') w') (hex : ∀ id env' mem', k (.exit id) env' mem' ≠ some r) {f : Nat} (hf : P.funcs[f]? = some fn) : CallsIn Fence.wide n P f args'.toArray w R' := by
  simp only [funcOk, Bool.and_eq_true, Bool.not_eq_true', Nat.ble_eq] at hok
  obtain ⟨⟨⟨⟨h1, h2⟩, h3⟩, h4⟩, h5⟩ := hok
  rw [hc] at h1
  simp only at h1
  have hlen' : args'.length = F.np := by rw [← hv.length, hlen]
  refine callsIn_of_wp_marks hf hc trivial ?_
  have hsize : (args'.toArray ++ Array.replicate (fn.ntmps - args'.toArray.size) undef).size = fn.ntmps := by
    simp only [Array.size_append, List.size_toArray, Array.size_replicate]
    omega
  let D : Fr := { c0 := cx B (eM mem) σ w, dp := d }
  have st : St w1 B fn.ntmps D (start vs) mem σ { tmps := args'.toArray ++ Array.replicate (fn.ntmps - args'.toArray.size) undef, defers := [] } w := by
    refine ⟨?_, sm, ⟨hsize, h2, ⟨[], rfl, .nil, fun r h => by simp at h⟩, Later.refl _, fun _ _ _ => rfl⟩⟩
    intro t v ht
    have hmem := lk_mem ht
    simp only [start] at hmem
    obtain ⟨i, hi, hie⟩ := List.mem_iff_getElem.1 hmem
    simp only [List.getElem_zip, List.getElem_range, Prod.mk.injEq] at hie
    obtain ⟨rfl, rfl⟩ := hie
    have hiv : i < vs.length := by simpa using hi
    obtain ⟨x', hx1, hx2⟩ := hv.get (List.getElem?_eq_getElem hiv)
    refine ⟨x', ?_, hx2⟩
    have hia : i < args'.length := by rw [← hv.length]; exact hiv
    simp only
    rw [Array.getElem?_append_left (by simpa using hia)]
    simpa using hx1
  have fin : ∀ ex env' mem' σ' a' w', k ex env' mem' = some r → St w1 B fn.ntmps D env' mem' σ' a' w' → LeavesInM Fence.wide n P fn a'.tmps R' a'.defers .returning w' := by
    intro ex env' mem' σ' a' w' hk st'
    obtain ⟨rs, r1, r2, r3⟩ := st'.fr.marks
    rw [r1]
    refine leaves_marks r2 (fun x hx => (r3 x hx).2.1) ?_
    obtain ⟨s1, s2, s3⟩ := shut_sound (c0 := cx B (eM mem) σ w) sm.below.size r2 (fun x hx => r3 x hx) st'.sm st'.en st'.fr.since
    obtain ⟨v', e1, e2⟩ := hfin ex env' mem' σ' a' _ hk s1 s2 s3 st'.fr.stk
    exact ⟨v', e1, e2⟩
  refine evC_sound (D := D) HC HM hm c false F.body h1 open_wide (fun _ => rfl) hY h st fun ex env' mem' σ' a' w' hk st' => ?_
  cases ex with
  | normal => exact fin _ _ _ _ _ _ hk st'
  | exit id => exact absurd hk (hex id env' mem')
  | ret => exact fin _ _ _ _ _ _ hk st'
theorem results_run {fn : Func} {w : World} {tmps : Array Value} {vs' : List Value} (hr : ((fn.results.toList).mapM (readRes P tmps)).run P w = .ok vs' w) : (results fn tmps).run P w = .ok (if h : vs'.toArray.size = 1 then vs'.toArray[0] else .tuple vs'.toArray) w := by
  have e1 : results fn tmps = (do
      let vs ← fn.results.mapM (readRes P tmps)
      pure (if h : vs.size = 1 then vs[0] else .tuple vs)) := by
    unfold results
    congr 1
  rw [e1, Array.mapM_eq_mapM_toList]
  simp only [Sem.run_bind, Sem.run_map, hr, Result.andThen_ok, Sem.run_pure]
theorem ress_read {w1 : World} {B : Nat → Prop} {env : Env} {mem : Mem} {σ : Nat → Slot} {a : Act} {w : World} (sm : Sm w1 B (eM mem) σ w) (en : EnvR (cx B (eM mem) σ w) (eE env) a) {xs : List ResultVar} {ys : List Res} (hok : ressOk P xs ys = true) {vs : List V} (h : mapO (resK (fun t => lk t env) fun b => lk b mem) ys = some vs) :
    ∃ vs', (xs.mapM (readRes P a.tmps)).run P w = .ok vs' w ∧ VRs (cx B (eM mem) σ w) vs vs' := ress_sound sm en hok h
/-- **A function** that has its blocks to itself: what the evaluator says of it is what a caller may count on. -/
theorem func_sound (HC : CallLaw P H r) (HM : MLaw P H r) (hm : P.follows .mixedOrders = true) {f : Nat} {fn : Func} {F : IF} (hf : P.funcs[f]? = some fn) (hok : funcOk P fn F = true) {vs : List V} {k : V → Option R} (h : evF H F vs k = some r) :
    CallOk P f vs (fun v => k v = some r) ∧ ∃ v, pureV 5 v = true ∧ k v = some r := by
  have hok' := hok
  simp only [funcOk, Bool.and_eq_true, Bool.not_eq_true', Nat.ble_eq] at hok
  obtain ⟨⟨⟨⟨h1, h2⟩, h3⟩, h4⟩, h5⟩ := hok
  split at h1
  · rename_i c hc
    simp only [evF, cond_eq_ite, Nat.beq_eq] at h
    split at h
    · rename_i hnp
      refine ⟨⟨⟨fn, hf, h3, by simp [hc]⟩, ?_⟩, ?_⟩
      · intro w B σ args' n hB hv
        have hown : ∀ r, ¬ own (eM []) σ r := by
          rintro r ⟨k2, blk, e, -, -⟩
          simp [eM, lk] at e
        have L : Later ⟨w, fun _ => False, σ, B⟩ (cx B (eM []) σ w) := ⟨Nat.le_refl _, fun _ _ _ => rfl, fun r _ h => (hown r h).elim, fun _ _ h => .inl h⟩
        have sm : Sm w B (eM []) σ w := ⟨Below.refl _ _, hB, fun k2 blk e => by simp [eM, lk] at e, fun k2 k3 blk blk' e => by simp [eM, lk] at e, fun k2 blk e => by simp [eM, lk] at e⟩
        refine body_sound HC HM hm hok' (Y := fun _ _ _ _ _ => none) (fun q vs d mem kk _ h => by simp at h) sm hnp (hv.later L fun _ _ _ => .inr rfl) h hc (fun ex env' mem' σ' a' w' hk s' en' L' hs' => ?_) (fun id env' mem' => by simp) hf
        have fin : finish F env' mem' k = some r → ∃ v', (results fn a'.tmps).run P w' = .ok v' w' ∧ ∃ v v'', Ending.returned v' = .returned v'' ∧ Below w.heap.size w w' ∧ VR ⟨w', fun _ => False, σ, B⟩ v v'' ∧ pureV 5 v = true ∧ k v = some r := by
          intro hk
          simp only [finish] at hk
          split at hk
          · rename_i us hus
            split at hk
            · rename_i us2 hus2
              obtain ⟨vs', hr, hvs⟩ := ress_read s' en' h5 hus
              have hsnap : VRs ⟨w', fun _ => False, σ', B⟩ us2 vs' := mapO_VRs hus2 hvs fun x y x' _ e r => snap_sound (c := cx B (eM mem') σ' w') (c2 := ⟨w', fun _ => False, σ', B⟩) s'.blk (fun k2 blk e1 e2 hB2 => by
                have h6 := s'.bB _ hB2
                have h7 := (s'.base k2 blk e1 e2).1
                simp only [cx] at h6
                omega) rfl (fun _ h => h) (fun q hq => .inl hq) 4 x y x' e r
              have hpure := pure_tup (mapM_pure hus2)
              have hres := vrs_tup hsnap
              have hres2 : VR ⟨w', fun _ => False, σ, B⟩ (tupOf us2) (if h : vs'.toArray.size = 1 then vs'.toArray[0] else .tuple vs'.toArray) :=
                VR.adopt (c := ⟨w', fun _ => False, σ', B⟩) (c' := ⟨w', fun _ => False, σ, B⟩) ⟨rfl, fun _ _ (h : False) => h.elim, fun _ _ h => h⟩ hres ⟨5, hpure⟩
              exact ⟨_, results_run hr, tupOf us2, _, rfl, s'.below, hres2, hpure, hk⟩
            · simp at hk
          · simp at hk
        cases ex with
        | normal => exact fin hk
        | exit id => simp at hk
        | ret => exact fin hk
      · obtain ⟨ex, env', mem', hk⟩ := evC_ex HC HM F.body (fun q vs d mem kk h => by simp at h) h
        have fin : finish F env' mem' k = some r → ∃ v, pureV 5 v = true ∧ k v = some r := by
          intro hk
          simp only [finish] at hk
          split at hk
          · split at hk
            · rename_i us2 hus2
              exact ⟨_, pure_tup (mapM_pure hus2), hk⟩
            · simp at hk
          · simp at hk
        cases ex with
        | normal => exact fin hk
        | exit id => simp at hk
        | ret => exact fin hk
    · simp at h
  · simp at h1
/-- **A function** that shares its caller's blocks. -/
theorem funcM_sound (HC : CallLaw P H r) (HM : MLaw P H r) (hm : P.follows .mixedOrders = true) {f : Nat} {fn : Func} {F : IF} (hf : P.funcs[f]? = some fn) (hok : funcOk P fn F = true) {Y : Yt R} {vs : List V} {d : Nat} {mem : Mem} {k : V → Mem → Option R} (h : evM H Y F vs d mem k = some r) :
    (∃ fn, P.funcs[f]? = some fn ∧ (fn.name == "runtime.NumGoroutine") = false ∧ fn.body.isNone = false) ∧
    (∀ (w1 : World) (B : Nat → Prop) (σ : Nat → Slot) (w : World) (args' : List Value) (n : Nat), YLaw P w1 B r Y d σ → Sm w1 B (eM mem) σ w → VRs (cx B (eM mem) σ w) vs args' → CallsIn Fence.wide n P f args'.toArray w (MPost w1 B d mem σ w fun v mem' => k v mem' = some r)) ∧
    (YEx r Y → ∃ v mem', k v mem' = some r) := by
  have hok' := hok
  simp only [funcOk, Bool.and_eq_true, Bool.not_eq_true', Nat.ble_eq] at hok
  obtain ⟨⟨⟨⟨h1, h2⟩, h3⟩, h4⟩, h5⟩ := hok
  split at h1
  · rename_i c hc
    simp only [evM, cond_eq_ite, Nat.beq_eq] at h
    split at h
    · rename_i hnp
      refine ⟨⟨fn, hf, h3, by simp [hc]⟩, ?_, ?_⟩
      · intro w1 B σ w args' n hY sm hv
        refine body_sound HC HM hm hok' hY sm hnp hv h hc (fun ex env' mem' σ' a' w' hk s' en' L' hs' => ?_) (fun id env' mem' => by simp) hf
        have fin : finM F env' mem' k = some r → ∃ v', (results fn a'.tmps).run P w' = .ok v' w' ∧ MPost w1 B d mem σ w (fun v mem' => k v mem' = some r) (.returned v') w' := by
          intro hk
          simp only [finM] at hk
          split at hk
          · rename_i us hus
            obtain ⟨vs', hr, hvs⟩ := ress_read s' en' h5 hus
            exact ⟨_, results_run hr, tupOf us, _, mem', σ', rfl, s', L', hs', vrs_tup hvs, hk⟩
          · simp at hk
        cases ex with
        | normal => exact fin hk
        | exit id => simp at hk
        | ret => exact fin hk
      · intro hY
        obtain ⟨ex, env', mem', hk⟩ := evC_ex HC HM F.body hY h
        have fin : finM F env' mem' k = some r → ∃ v mem', k v mem' = some r := by
          intro hk
          simp only [finM] at hk
          split at hk
          · exact ⟨_, _, hk⟩
          · simp at hk
        cases ex with
        | normal => exact fin hk
        | exit id => simp at hk
        | ret => exact fin hk
    · simp at h
  · simp at h1
end
end Go.Ge
