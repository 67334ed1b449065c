/- Bodies and functions. -/
import Derived.Test.YtneeobmefioenaaGeDraw
import Derived.RangeFuncRecord
namespace Go.Ge
open Go Go.RowKit

def exitOf : Ex → Exit
  | .normal => .normal
  | .exit id => .exit id
  | .ret => .ret
/-- The code, held against the function's body; rnd: within a round. -/
def codeOk (P : Program) (N : Nat) : Bool → Code → IC → Bool
  | _, .skip, .skip => true
  | _, .region _ ops draw, .reg is _ _ => !draw && iisOk P N ops ops.toList is
  | _, .region _ ops draw, .dreg is ord _ _ => draw && drawOk P N ops is ord
  | rnd, .seq a b, .seq a' b' => codeOk P N rnd a a' && codeOk P N rnd b b'
  | rnd, .cond c a b, .cond c' a' b' => opdOk c c' && codeOk P N rnd a a' && codeOk P N rnd b b'
  | rnd, .block id c, .block id' c' => Nat.beq id id' && codeOk P N rnd c c'
  | rnd, .loop c, .loop c' => codeOk P N rnd c c'
  | rnd, .rangeFunc f ps a b, .rf f' ps' a' b' => !rnd && opdOk f f' && listEq ps.toList ps' && ps'.all (fun t => Nat.blt t N) && codeOk P N true a a' && codeOk P N true b b'
  | _, .exit id, .exit id' => Nat.beq id id'
  | _, .ret, .ret => true
  | _, _, _ => false
theorem least {J : Nat → Prop} (h : ∃ m, J m) : ∃ m, J m ∧ ∀ k, J k → m ≤ k := by
  obtain ⟨m, hm⟩ := h
  induction m using Nat.strongRecOn with
  | _ m ih =>
    classical
    by_cases hk : ∃ k, k < m ∧ J k
    · obtain ⟨k, h1, h2⟩ := hk
      exact ih k h1 h2
    · exact ⟨m, hm, fun k h => Nat.le_of_not_lt fun hlt => hk ⟨k, hlt, h⟩⟩
open Classical in
noncomputable def leastN (J : Nat → Prop) : Nat := if h : ∃ m, J m then Classical.choose (least h) else 0
theorem leastN_spec {J : Nat → Prop} (h : ∃ m, J m) : J (leastN J) ∧ ∀ k, J k → leastN J ≤ k := by
  unfold leastN
  rw [dif_pos h]
  exact Classical.choose_spec (least h)
theorem lk_isNone {α : Type} {t : Nat} {l : List (Nat × α)} (h : (lk t l).isNone = true) : lk t l = none := by simpa using h
theorem news_mem : ∀ {is : List II} {x : II}, x ∈ is → ∀ b, b ∈ newsX x → b ∈ newsOf is
  | [], x, h, _, _ => by simp at h
  | y :: r, x, h, b, hb => by
    have hrest : x ∈ r → b ∈ newsOf r := fun hx => news_mem hx b hb
    rcases List.mem_cons.1 h with rfl | h
    · unfold newsX at hb
      split at hb
      · rename_i d hd
        split at hb
        · rename_i hn
          simp only [List.mem_singleton] at hb
          subst hb
          cases hi : x.i <;> rw [hi] at hn <;> simp [isNew] at hn <;> simp [newsOf, hi, hd]
        · simp at hb
      · simp at hb
    · have := hrest h
      unfold newsOf
      split <;> first | exact List.mem_cons_of_mem _ this | exact this
theorem als_mem : ∀ {is : List II} {x : II}, x ∈ is → isAl x.i = true → ∀ d, x.dst = some d → d ∈ alsOf is
  | [], x, h, _, _, _ => by simp at h
  | y :: r, x, h, ha, d, hd => by
    have hrest : x ∈ r → d ∈ alsOf r := fun hx => als_mem hx ha d hd
    rcases List.mem_cons.1 h with rfl | h
    · cases hi : x.i <;> rw [hi] at ha <;> simp [isAl] at ha
      simp [alsOf, hi, hd]
    · have := hrest h
      unfold alsOf
      split <;> first | exact List.mem_cons_of_mem _ this | exact this
theorem old_of {is : List II} {env : Env} {mem : Mem} (h : oldOk is env mem = true) : Old (newsOf is) is (eE env) (eM mem) := by
  simp only [oldOk, Bool.and_eq_true, List.all_eq_true] at h
  refine ⟨fun x hx d v hd hv b hb => ?_, fun x hx ha d hd => ?_⟩
  · have := h.1 x hx
    rw [hd] at this
    simp only [eE] at hv
    simp only [hv, List.all_eq_true, Bool.not_eq_true'] at this
    exact this b hb
  · exact lk_isNone (h.2 d (als_mem hx ha d hd))
section
variable {R : Type} {H : Hk R} {r : R} {P : Program} {F : Fence} {n : Nat} {w1 : World} {B : Nat → Prop} {N : Nat} {D : Fr}
theorem St.toF {env : Env} {mem : Mem} {σ : Nat → Slot} {a : Act} {w : World} (st : St w1 B N D env mem σ a w) : StF w1 B N D (eE env) (eM mem) σ a w := ⟨st.en, st.sm, st.fr⟩
theorem draw_sound (hF : Open F) (HC : CallLaw P H r) (hm : P.follows .mixedOrders = true) {id : Nat} {ops : Array Oper} {is : List II} {ord : List (List Nat)} (hok : drawOk P N ops is ord = true) {env : Env} {mem : Mem} {σ : Nat → Slot} {a : Act} {w : World}
    {kk : Env → Mem → Option R} {Q : Exit → Act → World → Prop} {Y : Yt R} {dp : Nat} (hold : oldOk is env mem = true) (h : evIs H Y dp is env mem kk = some r) (st : St w1 B N D env mem σ a w)
    (hQ : ∀ env' mem' σ' a' w', kk env' mem' = some r → St w1 B N D env' mem' σ' a' w' → Q .normal a' w') : (Code.region id ops true).wpIn F n P Q a w := by
  simp only [drawOk, Bool.and_eq_true] at hok
  obtain ⟨⟨⟨⟨⟨h1, h2⟩, h3⟩, h4⟩, h6⟩, h5⟩ := hok
  obtain ⟨hlen, hget⟩ := iisOk_get h1
  have hlen' : ops.size = is.length := by rw [← hlen]; simp
  rw [List.all_eq_true] at h2
  have hdraw : ∀ x, x ∈ is → x.fr = [] ∧ drawI x.i = true := fun x hx => by
    have := h2 x hx
    simp only [Bool.and_eq_true, List.isEmpty_iff] at this
    exact this
  have hch := chain_of_evIs HC hdraw h
  have hB : Below w.heap.size w { w with drawn := w.drawn + 1 } := (Below.refl _ _).drew
  obtain ⟨s, L⟩ := st.sm.step hB
  have st' : StF w1 B N D (eE env) (eM mem) σ a { w with drawn := w.drawn + 1 } :=
    ⟨fun t v hv => by obtain ⟨v', e1, e2⟩ := st.en t v hv; exact ⟨v', e1, e2.later L fun _ => .inr rfl⟩, s, st.fr.later L rfl rfl fun _ _ _ => rfl⟩
  have hmap : (List.range ops.size).map (fun i => is.getD i dII) = is := by
    apply List.ext_getElem
    · simp [hlen']
    · intro i h6 h7
      simp [List.getElem?_eq_getElem h7]
  refine wpIn_region_any hm (any_sound (G := fun E M => ∃ env' mem', eE env' = E ∧ eM mem' = M ∧ kk env' mem' = some r) (news := newsOf is) (w1 := w1) (B := B) (D := D) hF hlen'
    (fun i o x ho hx => ⟨hget i o x (by simpa using ho) hx, (hdraw x (List.mem_of_getElem? hx)).2⟩) (fun x hx b hb => news_mem hx b hb) (nodupD_spec h3).2
    (fun i k x y hi hy hk hx => pairsOk_get (bef := []) (j := 0) rfl h4 (by simpa using hi) (by simpa using hy) (Nat.zero_le _) k hk (by simpa using hx))
    h6 (fun i o ho => by have := aftersOk_get h5 (i := i) (by simpa using ho); rwa [Nat.zero_add] at this) ?_ ops.size (List.range ops.size) _ (eE env) (eM mem) σ a _ (by simp) List.pairwise_lt_range ?_ (by simp) ?_ ?_ ?_ st')
  · rintro E M σ' a' w' ⟨env', mem', rfl, rfl, hk⟩ st2
    exact hQ env' mem' σ' a' w' hk ⟨st2.en, st2.sm, st2.fr⟩
  · intro i
    simp only [List.mem_range]
    refine ⟨fun hi => ⟨hi, by simp [hi]⟩, fun hi => hi.1⟩
  · intro i hi hn
    exact absurd (List.mem_range.2 hi) hn
  · rw [hmap]; exact old_of hold
  · rw [hmap]; exact hch
/-- One own block written for the last time. -/
theorem Sm.kill {M : Nat → Option Blk} {σ : Nat → Slot} {w w' : World} (h : Sm w1 B M σ w) {b : Nat} {blk0 : Blk} (h0 : M b = some blk0) (hr0 : blk0.real = true)
    (hsz : w'.heap.size = w.heap.size) (hos : w'.os = w.os) (htape : w'.tape = w.tape) (hout : w'.output = w.output ∧ w.drawn ≤ w'.drawn) (hoth : ∀ r, r ≠ (σ b).blk → w'.heap[r]? = w.heap[r]?)
    (hlk : ∀ ka va kt vt lf lo, blk0 ≠ .map ka va kt vt lf lo) : Sm w1 B (up M b none) σ w' ∧ Later (cx B M σ w) (cx B (up M b none) σ w') := by
  have hbase := h.base b blk0 h0 hr0
  have hM : ∀ k blk, up M b none k = some blk → k ≠ b ∧ M k = some blk := fun k blk e => by
    by_cases hk : k = b
    · subst hk; simp [up_same] at e
    · rw [up_ne _ _ hk] at e; exact ⟨hk, e⟩
  have L : Later (cx B M σ w) (cx B (up M b none) σ w') := by
    refine ⟨by simp only [cx]; omega, fun r _ hno => hoth r fun e => hno ⟨b, blk0, h0, hr0, e.symm⟩, fun r _ ho => ?_, fun _ _ hB => .inl hB⟩
    obtain ⟨k, blk, e, h1, h2⟩ := ho
    exact ⟨k, blk, (hM k blk e).2, h1, h2⟩
  refine ⟨⟨h.below.trans ⟨hos, htape, hout, by omega, fun i hi => hoth i (by omega)⟩, h.bB, fun k blk2 e hr2 => ?_, fun k k' b1 b2 e e' h1 h2 hs => h.inj k k' b1 b2 (hM _ _ e).2 (hM _ _ e').2 h1 h2 hs, fun k blk2 e => ?_⟩, L⟩
  · have := h.base k blk2 (hM _ _ e).2 hr2
    exact ⟨this.1, by omega⟩
  · obtain ⟨hk, e⟩ := hM _ _ e
    have hne : blk2.real = true → (σ k).blk ≠ (σ b).blk := fun hr2 e2 => hk (h.inj k b blk2 blk0 e h0 hr2 hr0 e2)
    refine (h.blk k blk2 e).later L (fun hr2 => hoth _ (hne hr2)) rfl (fun _ => .inr rfl) (fun m ka va kt vt l cur hbk lf hm => ?_)
    have hmb : m ≠ b := by rintro rfl; rw [h0] at hm; simp only [Option.some.injEq] at hm; exact hlk _ _ _ _ _ _ hm
    have : (σ m).blk ≠ (σ b).blk := fun e2 => hmb (h.inj m b _ blk0 hm h0 rfl hr0 e2)
    exact ⟨.inl (by rw [up_ne _ _ hmb]; exact hm), hoth _ this⟩
theorem eM_del {k : Nat} {mem : Mem} : eM (del k mem) = up (eM mem) k none := by
  funext x
  simp only [eM, lk_del, up]
theorem putObj_other {w : World} {l r : Nat} {o : Obj} (h : r ≠ l) : (w.putObj l o).heap[r]? = w.heap[r]? := World.putObj_heap_other h
/-- A loop's parameters. -/
theorem params_env {c : Cx} : ∀ {ps : List Nat} {vs : List V} {args' : List Value} {env : Env} {tm : Array Value}, ps.length = vs.length → (∀ t, t ∈ ps → t < tm.size) → VRs c vs args' → VarsR c env tm →
    VarsR c ((ps.zip vs).foldl (fun env p => put p.1 p.2 env) env) ((ps.zip args').foldl (fun tmps (p : Nat × Value) => tmps.setIfInBounds p.1 p.2) tm)
  | [], vs, args', env, tm, hl, ht, hv, h => by simpa using h
  | p :: ps, [], args', env, tm, hl, ht, hv, h => by simp at hl
  | p :: ps, v :: vs, _, env, tm, hl, ht, .cons (x' := v') hv hvs, h => by
    simp only [List.zip_cons_cons, List.foldl_cons]
    refine params_env (by simpa using hl) (fun t h2 => by have := ht t (by simp [h2]); simpa using this) hvs ?_
    intro t u hu
    rw [lk_put] at hu
    split at hu
    · rename_i e
      subst e
      simp only [Option.some.injEq] at hu
      subst hu
      exact ⟨v', by rw [Array.getElem?_setIfInBounds_self_of_lt (ht t (by simp))], hv⟩
    · rename_i e
      obtain ⟨u', h1, h2⟩ := h t u hu
      exact ⟨u', by rw [Array.getElem?_setIfInBounds_ne (fun e2 => e e2.symm)]; exact h1, h2⟩
theorem params_size : ∀ {l : List (Nat × Value)} {tm : Array Value}, (l.foldl (fun tmps (p : Nat × Value) => tmps.setIfInBounds p.1 p.2) tm).size = tm.size
  | [], tm => rfl
  | p :: r, tm => by simp only [List.foldl_cons]; rw [params_size]; simp
theorem below_putObj {w : World} {l : Nat} {o : Obj} : (w.putObj l o).heap.size = w.heap.size ∧ (w.putObj l o).os = w.os ∧ (w.putObj l o).tape = w.tape ∧ (w.putObj l o).output = w.output := ⟨World.putObj_size, rfl, rfl, rfl⟩
/-- The record of a loop, written. -/
theorem rec_set {q : Nat} {st st' : LS} {env : Env} {mem : Mem} {σ : Nat → Slot} {w : World} {L0 : Loop} (sm : Sm w1 B (eM mem) σ w) (hq : lk q mem = some (.lp st env)) (hL : (σ q).lp = some L0) :
    w.heap[(σ q).blk]? = some (.loop (st.rcd L0)) ∧ VarsR (cx B (eM mem) σ w) env L0.tmps ∧
    Sm w1 B (eM (put q (.lp st' env) mem)) σ (w.putObj (σ q).blk (.loop (st'.rcd L0))) ∧ Later (cx B (eM mem) σ w) (cx B (eM (put q (.lp st' env) mem)) σ (w.putObj (σ q).blk (.loop (st'.rcd L0)))) := by
  have hq' : eM mem q = some (.lp st env) := hq
  obtain ⟨L, h1, h2, h3⟩ := sm.blk q _ hq'
  have hLL : L = L0 := by
    simp only [cx] at h1
    rw [hL] at h1
    simpa using h1.symm
  subst hLL
  refine ⟨h2, h3, ?_⟩
  rw [eM_put]
  have hlt : (σ q).blk < w.heap.size := (sm.base q _ hq' rfl).2
  refine sm.set hq' rfl rfl World.putObj_size rfl rfl ⟨rfl, Nat.le_refl _⟩ (fun r hr => putObj_other hr) (fun ka va kt vt lf e => by cases e) fun L2 => ⟨L, h1, ?_, ?_⟩
  · exact World.putObj_heap_same hlt
  · exact h3.later L2 fun _ => .inr rfl
theorem roundPost_ok {P : Program} {l : Nat} {R' : Ending → World → Prop} {a : Act} {w w' : World} {ex : Ex} {j : Option Code} (hj : j = match ex with | .normal => none | .ret => some .ret | .exit id => some (.exit id)) (h : (Instr.endRound l j).run P w = .ok (.bool j.isNone) w') (hR : R' (.returned (.bool j.isNone)) w') :
    roundPost P l R' (exitOf ex) a w := by
  cases ex <;> subst hj <;> exact ⟨_, _, h, hR⟩
theorem evC_sound (HC : CallLaw P H r) (HM : MLaw P H r) (hm : P.follows .mixedOrders = true) : ∀ (c : Code) (rnd : Bool) (ic : IC), codeOk P N rnd c ic = true → ∀ {F : Fence} (_ : Open F) (_ : rnd = false → F.round = none) {n : Nat} {D : Fr} {Y : Yt R} (_ : YLaw P w1 B r Y D.dp D.c0.σ)
    {env : Env} {mem : Mem} {σ : Nat → Slot} {a : Act} {w : World} {k : Ex → Env → Mem → Option R} {Q : Exit → Act → World → Prop},
    evC H Y ic D.dp env mem k = some r → St w1 B N D env mem σ a w → (∀ ex env' mem' σ' a' w', k ex env' mem' = some r → St w1 B N D env' mem' σ' a' w' → Q (exitOf ex) a' w') → c.wpIn F n P Q a w := by
  intro c
  have HC' : Law P H r := ⟨fun f vs kk h => (HC.call f vs kk h).1, HC.join, HC.grow, HC.sort, HC.sort0⟩
  induction c with
  | skip =>
    intro rnd ic hok F hF hrd n D Y hY env mem σ a w k Q h st hQ
    cases ic <;> (try (simp [codeOk] at hok; done))
    exact wpIn_skip (hQ .normal _ _ _ _ _ h st)
  | region id ops draw =>
    intro rnd ic hok F hF hrd n D Y hY env mem σ a w k Q h st hQ
    cases ic <;> (try (simp [codeOk] at hok; done))
    · rename_i is live keys
      simp only [codeOk, Bool.and_eq_true, Bool.not_eq_true'] at hok
      obtain ⟨rfl, hok⟩ := hok
      exact wpIn_region_list (evIs_sound hF HC' HM hY hok h st fun env' mem' σ' a' w' hk st' => hQ .normal _ _ _ _ _ hk (sel_state st'))
    · rename_i is ord live keys
      simp only [codeOk, Bool.and_eq_true] at hok
      obtain ⟨rfl, hok⟩ := hok
      simp only [evC] at h
      cases hold : oldOk is env mem with
      | false => rw [hold] at h; simp at h
      | true =>
        rw [hold, cond_true] at h
        exact draw_sound hF HC hm hok hold h st fun env' mem' σ' a' w' hk st' => hQ .normal _ _ _ _ _ hk (sel_state st')
  | seq x y ihx ihy =>
    intro rnd ic hok F hF hrd n D Y hY env mem σ a w k Q h st hQ
    cases ic <;> (try (simp [codeOk] at hok; done))
    simp only [codeOk, Bool.and_eq_true] at hok
    refine wpIn_seq (ihx _ _ hok.1 hF hrd hY h st fun ex env' mem' σ' a' w' hk st' => ?_)
    cases ex with
    | normal => exact ihy _ _ hok.2 hF hrd hY hk st' hQ
    | exit id => exact hQ (.exit id) _ _ _ _ _ hk st'
    | ret => exact hQ .ret _ _ _ _ _ hk st'
  | cond c x y ihx ihy =>
    intro rnd ic hok F hF hrd n D Y hY env mem σ a w k Q h st hQ
    cases ic <;> (try (simp [codeOk] at hok; done))
    simp only [codeOk, Bool.and_eq_true] at hok
    obtain ⟨⟨h1, h2⟩, h3⟩ := hok
    simp only [evC] at h
    split at h
    · rename_i b hb
      have e := (opd_sound st.en h1 hb).b_inv
      cases b with
      | true => exact wpIn_cond_true e (ihx _ _ h2 hF hrd hY h st hQ)
      | false => exact wpIn_cond_false e (ihy _ _ h3 hF hrd hY h st hQ)
    · simp at h
  | block id c ih =>
    intro rnd ic hok F hF hrd n D Y hY env mem σ a w k Q h st hQ
    cases ic <;> (try (simp [codeOk] at hok; done))
    rename_i id' ic
    simp only [codeOk, Bool.and_eq_true, Nat.beq_eq] at hok
    obtain ⟨rfl, hok⟩ := hok
    refine wpIn_block (ih _ _ hok hF hrd hY h st fun ex env' mem' σ' a' w' hk st' => ?_)
    cases ex with
    | normal => exact hQ .normal _ _ _ _ _ hk st'
    | exit id2 =>
      simp only [exitOf, Exit.inBlock]
      dsimp only at hk
      cases hb : Nat.beq id2 id with
      | true =>
        rw [hb, cond_true] at hk
        rw [if_pos (Nat.eq_of_beq_eq_true hb)]
        exact hQ .normal _ _ _ _ _ hk st'
      | false =>
        rw [hb, cond_false] at hk
        rw [if_neg (Nat.ne_of_beq_eq_false hb)]
        exact hQ (.exit id2) _ _ _ _ _ hk st'
    | ret => exact hQ .ret _ _ _ _ _ hk st'
  | loop c ih =>
    intro rnd ic hok F hF hrd n D Y hY env mem σ a w k Q h st hQ
    cases ic <;> (try (simp [codeOk] at hok; done))
    rename_i ic
    simp only [codeOk] at hok
    simp only [evC] at h
    let J : Nat → Act → World → Prop := fun m a w => ∃ env mem σ, loopK (fun env mem k => evC H Y ic D.dp env mem k) m env mem k = some r ∧ St w1 B N D env mem σ a w
    refine wpIn_loop (fun a w => ∃ m, J m a w) (fun a w => leastN fun m => J m a w) ⟨_, env, mem, σ, h, st⟩ fun a w hI => ?_
    obtain ⟨⟨env1, mem1, σ1, h1, st1⟩, -⟩ := leastN_spec hI
    cases hm0 : (leastN fun m => J m a w) with
    | zero => rw [hm0] at h1; simp [loopK] at h1
    | succ m =>
      rw [hm0] at h1
      simp only [loopK] at h1
      refine ih _ _ hok hF hrd hY h1 st1 fun ex env' mem' σ' a' w' hk st' => ?_
      cases ex with
      | normal =>
        have hJ : J m a' w' := ⟨env', mem', σ', hk, st'⟩
        refine ⟨⟨m, hJ⟩, ?_⟩
        exact Nat.lt_succ_of_le ((leastN_spec (J := fun m => J m a' w') ⟨m, hJ⟩).2 m hJ)
      | exit id => exact hQ (.exit id) _ _ _ _ _ hk st'
      | ret => exact hQ .ret _ _ _ _ _ hk st'
  | exit id =>
    intro rnd ic hok F hF hrd n D Y hY env mem σ a w k Q h st hQ
    cases ic <;> (try (simp [codeOk] at hok; done))
    simp only [codeOk, Nat.beq_eq] at hok
    subst hok
    exact wpIn_exit (hQ (.exit id) _ _ _ _ _ h st)
  | ret =>
    intro rnd ic hok F hF hrd n D Y hY env mem σ a w k Q h st hQ
    cases ic <;> (try (simp [codeOk] at hok; done))
    exact wpIn_ret (hQ .ret _ _ _ _ _ h st)
  | rangeFunc f ps asg body iha ihb =>
    intro rnd ic hok F hF hrd n D Y hY env mem σ a w k Q h st hQ
    cases ic <;> (try (simp [codeOk] at hok; done))
    rename_i f' ps' asg' body'
    simp only [codeOk, Bool.and_eq_true, Bool.not_eq_true', List.all_eq_true, Nat.blt_eq] at hok
    obtain ⟨⟨⟨⟨⟨h1, h2⟩, h3⟩, h4⟩, h5⟩, h6⟩ := hok
    have hps := listEq_eq h3
    subst h1
    simp only [evC, cond_eq_ite, Bool.and_eq_true] at h
    split at h
    · rename_i hfr
      split at h
      · rename_i g caps hg
        generalize hq : BIG + D.dp = q at h hfr
        obtain ⟨hf1, hf2⟩ := free_env hfr.1
        obtain ⟨caps', eg, hcaps⟩ := (opd_sound st.en h2 hg).fn_inv
        refine wpIn_rangeFunc fun fn _ => ?_
        rw [hrd rfl]
        generalize hL0 : ({ state := .ready, pending := none, fn := fn, tmps := a.tmps, params := ps, assign := asg, body := body, defers := w.heap.size } : Loop) = L0
        have hrdy : LS.rcd L0 .ready = L0 := by subst hL0; rfl
        obtain ⟨W1, hW1⟩ : ∃ W1, (w.alloc (.deferred (some []))).alloc (.loop L0) = W1 := ⟨_, rfl⟩
        have hb1 : Below w.heap.size w W1 := by rw [← hW1]; exact ((Below.refl _ w).alloc (Nat.le_refl _) _).alloc (by simp) _
        have hsz1 : W1.heap.size = w.heap.size + 2 := by rw [← hW1]; simp
        have hLl : W1.heap[w.heap.size + 1]? = some (.loop L0) := by
          rw [← hW1]; have := World.alloc_heap_new (w.alloc (.deferred (some []))) (.loop L0); rwa [World.size_alloc] at this
        have hDl : W1.heap[w.heap.size]? = some (.deferred (some [])) := by
          rw [← hW1]; exact (Below.heap_alloc _ _ _ (by simp)).trans (World.alloc_heap_new w _)
        have hen : ∀ {c' : Cx}, Later (cx B (eM mem) σ w) c' → (∀ k, k ≠ q → c'.σ k = σ k) → VarsR c' env a.tmps := fun L hσ t v ht => by
          obtain ⟨v', e1, e2⟩ := st.en t v ht
          refine ⟨v', e1, e2.later L fun k => ?_⟩
          by_cases hk : k = q
          · subst hk; exact .inl ⟨5, hf1 t v ht⟩
          · exact .inr (hσ k hk)
        obtain ⟨s1, L1⟩ := st.sm.new hb1 q { blk := w.heap.size + 1, lp := some L0 } (.lp .ready env) (fun _ => ⟨by simp, by simp only; omega⟩) (fun k b e1 e2 => hf2 k b e1 e2) (fun L => by
          refine ⟨L0, by simp [cx, up_same], by simp only [cx, up_same]; rw [hrdy]; exact hLl, ?_⟩
          have := hen L (fun k hk => up_ne _ _ hk)
          subst hL0
          exact this)
        rw [← eM_put] at s1 L1
        generalize hσ1 : up σ q { blk := w.heap.size + 1, lp := some L0 } = σ1 at s1 L1
        have hσq : σ1 q = { blk := w.heap.size + 1, lp := some L0 } := by rw [← hσ1, up_same]
        have hs1 : StkSame D.dp σ σ1 := fun k _ h2 => by rw [← hσ1]; exact up_ne _ _ (by omega)
        have hl1 : (σ1 q).blk = w.heap.size + 1 := by rw [hσq]
        have hlp1 : (σ1 q).lp = some L0 := by rw [hσq]
        have htm0 : L0.tmps = a.tmps := by subst hL0; rfl
        -- the yield of this loop
        have hY1 : YLaw P w1 B r (rfY q ps' (fun dp env mem k => evC H Y asg' dp env mem k) (fun dp env mem k => evC H Y body' dp env mem k) Y) (D.dp + 1) σ1 := by
          intro q2 vs d mem2 kk hd hy2 σ2 w2 args2 n2 sm2 hstk2 hargs2
          have hYd : YLaw P w1 B r Y d σ2 := hY.later (by omega) ((st.fr.stk.trans hs1).trans (hstk2.mono (by omega)))
          unfold rfY at hy2
          cases hb : Nat.beq q2 q with
          | false =>
            rw [hb, cond_false] at hy2
            exact hYd q2 vs d mem2 kk (Nat.le_refl _) hy2 σ2 w2 args2 n2 sm2 (fun _ _ _ => rfl) hargs2
          | true =>
            rw [hb, cond_true] at hy2
            have := Nat.eq_of_beq_eq_true hb
            subst this
            have hσ2 : σ2 q2 = σ1 q2 := hstk2 q2 (by omega) (by omega)
            split at hy2
            · rename_i env2 hq2
              simp only [cond_eq_ite, Nat.beq_eq] at hy2
              split at hy2
              · rename_i hlen
                obtain ⟨hl2, hv2, -, -⟩ := rec_set (st' := .busy) sm2 hq2 (by rw [hσ2]; exact hlp1)
                rw [hrdy] at hl2
                have hargsl : args2.length = ps'.length := by rw [← hargs2.length, hlen]
                have hpsz : L0.params = ps := by subst hL0; rfl
                have hyr := run_yield (P := P) (args := args2.toArray) hl2 (by rw [hpsz]; simp [hargsl, ← hps])
                have ezip : ((L0.params.zip args2.toArray).foldl (fun tmps (x : Tmp × Value) => tmps.setIfInBounds x.1 x.2) L0.tmps) = (ps'.zip args2).foldl (fun tmps (p : Nat × Value) => tmps.setIfInBounds p.1 p.2) a.tmps := by
                  rw [hpsz, htm0, ← hps, ← Array.foldl_toList, Array.toList_zip]
                have e0 : L0.fn = fn ∧ L0.assign = asg ∧ L0.body = body := by subst hL0; exact ⟨rfl, rfl, rfl⟩
                rw [e0.1, e0.2.1, e0.2.2] at hyr
                refine ⟨fn, _, asg, body, hyr, ?_⟩
                have ezip' : ((L0.params.zip args2.toArray).foldl (fun tmps x => match x with | (t, a) => tmps.setIfInBounds t a) L0.tmps) = (ps'.zip args2).foldl (fun tmps (p : Nat × Value) => tmps.setIfInBounds p.1 p.2) a.tmps := ezip
                rw [ezip']
                let D2 : Fr := { c0 := cx B (eM mem2) σ2 w2, dp := d }
                have hN : a.tmps.size = N := st.size
                have st2 : St w1 B N D2 ((ps'.zip vs).foldl (fun env p => put p.1 p.2 env) env2) mem2 σ2 { tmps := (ps'.zip args2).foldl (fun tmps (p : Nat × Value) => tmps.setIfInBounds p.1 p.2) a.tmps, defers := [] } w2 :=
                  ⟨params_env hlen (fun t ht => by rw [hN]; exact h4 t ht) hargs2 (by rw [← htm0]; exact hv2), sm2,
                    ⟨by rw [params_size]; exact hN, st.fr.nb, ⟨[], rfl, .nil, fun r h => by simp at h⟩, Later.refl _, fun _ _ _ => rfl⟩⟩
                refine roundIn_of_wpIn (F := Fence.wide) trivial ?_
                refine iha true asg' h5 (open_round _) (fun h => by cases h) (D := D2) hYd hy2 st2 fun ex env3 mem3 σ3 a3 w3 hk3 st3 => ?_
                cases ex with
                | exit id => simp at hk3
                | ret => simp at hk3
                | normal =>
                  dsimp only at hk3
                  split at hk3
                  · rename_i env4 hq3
                    have hσ3 : σ3 q2 = σ1 q2 := (st3.fr.stk q2 (by omega) (by show q2 < BIG + d; omega)).trans hσ2
                    obtain ⟨hl3, hv3, sm4, L4⟩ := rec_set (st' := .busy) st3.sm hq3 (by rw [hσ3]; exact hlp1)
                    have hbk : ∀ σx : Nat → Slot, σx q2 = σ1 q2 → (σx q2).blk = (σ2 q2).blk := fun σx e => by rw [e, hσ2]
                    refine ⟨_, by have := run_beginRound (P := P) hl3 rfl; rw [hbk σ3 hσ3] at this; exact this, ?_⟩
                    have st4 : St w1 B N D2 env3 (put q2 (.lp .busy env4) mem3) σ3 a3 (w3.putObj (σ2 q2).blk (.loop (LS.rcd L0 .busy))) := by
                      rw [← hbk σ3 hσ3]
                      exact ⟨fun t v ht => by obtain ⟨v', e1, e2⟩ := st3.en t v ht; exact ⟨v', e1, e2.later L4 fun _ => .inr rfl⟩, sm4, st3.fr.later L4 rfl rfl fun _ _ _ => rfl⟩
                    refine ihb true body' h6 (open_round _) (fun h => by cases h) (D := D2) hYd hk3 st4 fun ex env5 mem5 σ5 a5 w5 hk5 st5 => ?_
                    unfold rfE at hk5
                    split at hk5
                    · rename_i env6 hq5
                      have hσ5 : σ5 q2 = σ1 q2 := (st5.fr.stk q2 (by omega) (by show q2 < BIG + d; omega)).trans hσ2
                      have fin : ∀ (ls : LS) (j : Option Code) (x : Bool), x = j.isNone → LS.rcd L0 ls = { LS.rcd L0 .busy with state := if j.isNone then .ready else .done, pending := j } → kk (.b x) (put q2 (.lp ls env6) mem5) = some r →
                          ∃ w6, (Instr.endRound (σ2 q2).blk j).run P w5 = .ok (.bool j.isNone) w6 ∧ MPost w1 B d mem2 σ2 w2 (fun v mem' => kk v mem' = some r) (.returned (.bool j.isNone)) w6 := by
                        intro ls j x hx hls hkk
                        obtain ⟨hl6, hv6, sm6, L6⟩ := rec_set (st' := ls) st5.sm hq5 (by rw [hσ5]; exact hlp1)
                        have := run_endRound (P := P) j hl6
                        rw [hbk σ5 hσ5] at this
                        refine ⟨_, this, .b x, _, _, σ5, rfl, ?_, ?_, st5.fr.stk, by rw [hx]; exact .b _, hkk⟩
                        · rw [← hls, ← hbk σ5 hσ5]; exact sm6
                        · rw [← hls, ← hbk σ5 hσ5]; exact st5.fr.since.trans L6
                      cases ex with
                      | normal =>
                        obtain ⟨w6, e1, e2⟩ := fin .ready none true rfl rfl hk5
                        exact ⟨_, _, e1, e2⟩
                      | ret =>
                        obtain ⟨w6, e1, e2⟩ := fin .ret (some .ret) false rfl rfl hk5
                        exact ⟨_, _, e1, e2⟩
                      | exit id =>
                        obtain ⟨w6, e1, e2⟩ := fin (.exit id) (some (.exit id)) false rfl rfl hk5
                        exact ⟨_, _, e1, e2⟩
                    · simp at hk5
                  · simp at hk3
              · simp at hy2
            · simp at hy2
        -- the call
        have hargs : VRs (cx B (eM (put q (.lp .ready env) mem)) σ1 W1) (.yf q :: caps) (.func (.yield (w.heap.size + 1)) #[] #[] :: caps') := by
          refine .cons (by have := VR.yf (c := cx B (eM (put q (.lp .ready env) mem)) σ1 W1) q; simp only [cx] at this; rw [hl1] at this; exact this) ?_
          refine hcaps.later L1 fun x hx k => ?_
          by_cases hk : k = q
          · subst hk
            have hmen : mentions k 5 (.fn g caps) = false := by
              cases f' with
              | t t => exact hf1 t _ hg
              | c v =>
                simp only [ev, Option.some.injEq] at hg
                subst hg
                cases f <;> simp [opdOk] at h2
                rename_i v2
                cases v2 <;> simp [valOk, scOk] at h2
              | f m => simp only [ev, Option.some.injEq, V.fn.injEq] at hg; rw [← hg.2]; rfl
            have hmen2 : caps.any (mentions k 4) = false := hmen
            rw [List.any_eq_false] at hmen2
            exact .inl ⟨4, Bool.eq_false_iff.2 (hmen2 x hx)⟩
          · refine .inr ?_
            show σ1 k = σ k
            rw [← hσ1]; exact up_ne _ _ hk
        obtain ⟨fnn, hfn, hname, hbody⟩ := HM.enters _ _ _ _ _ _ h
        have hcall := HM.calls _ _ _ _ _ _ h w1 B σ1 W1 _ (n - 1) hY1 s1 hargs
        refine ⟨w.heap.size + 1, [{ target := .collected w.heap.size, args := #[] }], W1, { target := .fn (.func g) caps'.toArray, args := #[.func (.yield (w.heap.size + 1)) #[] #[]] }, W1, g,
          (.func (.yield (w.heap.size + 1)) #[] #[] :: caps').toArray, W1, ?_, ?_, fun f _ => hF.fn f, ?_, fun h => by rw [hF.depth] at h; simp at h, ?_⟩
        · rw [← hW1, ← hL0]; exact run_enterLoop_outer _ _ _ _ _
        · simp only [resolve, eg]
          simp [Act.eval, Deferred.ofValue]
        · simp only [invoke, callFunc, Sem.run_bind, run_program, Result.andThen_ok, hfn, hname, hbody]
          simp
        · refine (hF.calls hcall).mono fun e w3 hp => ?_
          obtain ⟨v, v', mem', σ2, rfl, s2, L2, hs2, -, hk⟩ := hp
          unfold rfK at hk
          split at hk
          · rename_i ls env' hq3
            have hσ2 : σ2 q = σ1 q := hs2 q (by omega) (by omega)
            obtain ⟨hl3, hv3, -, -⟩ := rec_set (st' := .busy) s2 hq3 (by rw [hσ2]; exact hlp1)
            rw [hσ2, hl1] at hl3
            rw [htm0] at hv3
            have hblk : (σ2 q).blk = w.heap.size + 1 := by rw [hσ2, hl1]
            have key : ∀ o : Obj, St w1 B N D env' (del q mem') σ2 { a with defers := { target := .collected w.heap.size, args := #[] } :: a.defers } (w3.putObj (w.heap.size + 1) o) := by
              intro o
              obtain ⟨s3, L3⟩ := s2.kill (b := q) (w' := w3.putObj (w.heap.size + 1) o) hq3 rfl World.putObj_size rfl rfl ⟨rfl, Nat.le_refl _⟩ (fun r hr => putObj_other (by rw [hblk] at hr; exact hr)) (fun _ _ _ _ _ _ e => by cases e)
              rw [← eM_del] at s3 L3
              have LL := (L1.trans L2).trans L3
              refine ⟨fun t u ht => ?_, s3, ⟨st.size, st.fr.nb, ?_, st.fr.since.trans LL, st.fr.stk.trans (hs1.trans (hs2.mono (by omega)))⟩⟩
              · obtain ⟨u', e1, e2⟩ := hv3 t u ht
                exact ⟨u', e1, e2.later L3 fun _ => .inr rfl⟩
              · -- the mark
                have hno : ¬ (cx B (eM (put q (.lp .ready env) mem)) σ1 W1).own w.heap.size := by
                  rintro ⟨k2, blk2, e1, e2, e3⟩
                  by_cases hk2 : k2 = q
                  · subst hk2; rw [hl1] at e3; omega
                  · have e4 : eM mem k2 = some blk2 := by rw [eM_put, up_ne _ _ hk2] at e1; exact e1
                    have e5 : σ1 k2 = σ k2 := by rw [← hσ1]; exact up_ne _ _ hk2
                    have := (st.sm.base k2 blk2 e4 e2).2
                    rw [e5] at e3
                    omega
                obtain ⟨rs, r1, r2, r3⟩ := st.fr.marks
                have hold := (MarksOk.later (c' := cx B (eM (put q (.lp .ready env) mem)) σ1 W1) L1 ⟨rs, r1, r2, r3⟩)
                have hlt : ∀ x, x ∈ rs → x < w.heap.size := fun x hx => (Array.getElem?_eq_some_iff.1 (r3 x hx).2.1).1
                have hnew : MarksOk D.c0.w.heap.size (cx B (eM (put q (.lp .ready env) mem)) σ1 W1) ({ target := .collected w.heap.size, args := #[] } :: a.defers) := by
                  refine ⟨w.heap.size :: rs, by rw [r1]; rfl, List.nodup_cons.2 ⟨fun hx => by have := hlt _ hx; omega, r2⟩, fun x hx => ?_⟩
                  rcases List.mem_cons.1 hx with rfl | hx
                  · exact ⟨st.fr.since.size, hDl, hno⟩
                  · obtain ⟨a1, a2, a3⟩ := r3 x hx
                    refine ⟨a1, by rw [L1.heap x (hlt x hx) a3]; exact a2, fun e => a3 (L1.own x (hlt x hx) e)⟩
                exact (hnew.later L2).later L3
            cases ls with
            | busy => simp at hk
            | ready =>
              refine ⟨none, _, by have := run_endLoop (P := P) hl3 (by simp [LS.rcd]); exact this, ?_⟩
              exact hQ .normal _ _ _ _ _ hk (key _)
            | ret =>
              refine ⟨some .ret, _, by have := run_endLoop (P := P) hl3 (by simp [LS.rcd]); exact this, ?_⟩
              exact wpIn_ret (hQ .ret _ _ _ _ _ hk (key _))
            | exit id =>
              refine ⟨some (.exit id), _, by have := run_endLoop (P := P) hl3 (by simp [LS.rcd]); exact this, ?_⟩
              exact wpIn_exit (hQ (.exit id) _ _ _ _ _ hk (key _))
          · simp at hk
      · simp at h
    · simp at h
  | scope c _ =>
    intro rnd ic hok
    cases ic <;> simp [codeOk] at hok
  | label l =>
    intro rnd ic hok
    cases ic <;> simp [codeOk] at hok
  | goto l =>
    intro rnd ic hok
    cases ic <;> simp [codeOk] at hok
  | refuse s =>
    intro rnd ic hok
    cases ic <;> simp [codeOk] at hok
end
end Go.Ge
