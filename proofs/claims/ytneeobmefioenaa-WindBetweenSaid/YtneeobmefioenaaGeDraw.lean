/- Regions that draw their order. -/
import Derived.Test.YtneeobmefioenaaGeChain6
namespace Go.Ge
open Go Go.RowKit

def dII : II := ⟨none, .nope, none, []⟩
def nodupD : List II → List Nat → Bool
  | [], _ => true
  | x :: r, seen => match x.dst with
    | some d => !seen.contains d && nodupD r (d :: seen)
    | none => nodupD r seen
theorem nodupD_spec : ∀ {is : List II} {seen : List Nat}, nodupD is seen = true → (∀ x, x ∈ is → ∀ d, x.dst = some d → d ∉ seen) ∧ is.Pairwise fun x y => ∀ d, x.dst = some d → y.dst ≠ some d
  | [], seen, h => ⟨by simp, .nil⟩
  | x :: r, seen, h => by
    simp only [nodupD] at h
    split at h
    · rename_i d hd
      simp only [Bool.and_eq_true, Bool.not_eq_true', List.contains_eq_mem, decide_eq_false_iff_not] at h
      obtain ⟨h1, h2⟩ := nodupD_spec h.2
      refine ⟨fun y hy d' hd' => ?_, .cons (fun y hy d' hd' hy' => ?_) h2⟩
      · rcases List.mem_cons.1 hy with rfl | hy
        · rw [hd] at hd'; simp only [Option.some.injEq] at hd'; subst hd'; exact h.1
        · exact fun hm => h1 y hy d' hd' (by simp [hm])
      · rw [hd] at hd'
        simp only [Option.some.injEq] at hd'
        subst hd'
        exact h1 y hy d hy' (by simp)
    · rename_i hd
      obtain ⟨h1, h2⟩ := nodupD_spec h
      refine ⟨fun y hy d' hd' => ?_, .cons (fun y hy d' hd' _ => by rw [hd] at hd'; simp at hd') h2⟩
      rcases List.mem_cons.1 hy with rfl | hy
      · rw [hd] at hd'; simp at hd'
      · exact h1 y hy d' hd'
def afterOk (ord : List (List Nat)) (j : Nat) (o : Oper) : Bool :=
  o.after.all (fun e => !Region.binds .any e || Nat.blt e.on j) && (ord.getD j []).all fun i => o.after.any fun e => Region.binds .any e && (Nat.beq e.on i || (ord.getD e.on []).contains i)
def aftersOk (ord : List (List Nat)) : Nat → List Oper → Bool
  | _, [] => true
  | j, o :: r => afterOk ord j o && aftersOk ord (j + 1) r
theorem aftersOk_get {ord : List (List Nat)} : ∀ {l : List Oper} {j i : Nat} {o : Oper}, aftersOk ord j l = true → l[i]? = some o → afterOk ord (j + i) o = true
  | [], j, i, o, _, h => by simp at h
  | p :: r, j, 0, o, h, h2 => by simp only [aftersOk, Bool.and_eq_true] at h; simp at h2; subst h2; exact h.1
  | p :: r, j, i + 1, o, h, h2 => by
    simp only [aftersOk, Bool.and_eq_true] at h
    have := aftersOk_get h.2 (by simpa using h2)
    rw [show j + (i + 1) = j + 1 + i by omega]
    exact this
/-- A store, with less to keep clear of. -/
def avOut (d : Option Nat) (o : Opd) : Bool := match d, o with | some d, .t n => !Nat.beq d n | _, _ => true
def dropAv (d : Option Nat) (j : II) : II := match j.i with | .sta n p x av => { j with i := .sta n p x (av.filter (avOut d)) } | _ => j
def pairOk (x j : II) : Bool := pairOk0 x (dropAv x.dst j)
/-- No pointer that is read through is written behind. -/
def ldKeep : List II → Bool
  | [] => true
  | x :: r => (match x.i with | .ld _ _ (.t t) => r.all (fun y => match y.dst with | some d => !Nat.beq d t | none => true) && (match x.dst with | some d => !Nat.beq d t | none => true) | _ => true) && ldKeep r
/-- j, with less to keep clear of. -/
structure Like (j' j : II) (p : List II) : Prop where
  dst : j'.dst = j.dst
  g : j'.g = j.g
  fr : j'.fr = j.fr
  i : j'.i = j.i ∨ ∃ n a b av av', j.i = .sta n a b av ∧ j'.i = .sta n a b av' ∧ (∀ o, o ∈ av' → o ∈ av) ∧ ∀ o, o ∈ av → (∀ y, y ∈ p → avOut y.dst o = true) → o ∈ av'
theorem like_refl (j : II) : Like j j [] := ⟨rfl, rfl, rfl, .inl rfl⟩
theorem like_drop {j' j : II} {p : List II} (h : Like j' j p) (x : II) : Like (dropAv x.dst j') j (x :: p) := by
  obtain ⟨h1, h2, h3, h4⟩ := h
  rcases h4 with h4 | ⟨n, a, b, av, av', e1, e2, e3, e4⟩
  · unfold dropAv
    split
    · rename_i n a b av hi
      refine ⟨h1, h2, h3, .inr ⟨n, a, b, av, _, by rw [← h4, hi], rfl, fun o ho => (List.mem_filter.1 ho).1, fun o ho hy => List.mem_filter.2 ⟨ho, hy x (by simp)⟩⟩⟩
    · exact ⟨h1, h2, h3, .inl h4⟩
  · unfold dropAv
    rw [e2]
    exact ⟨h1, h2, h3, .inr ⟨n, a, b, av, _, e1, rfl, fun o ho => e3 o (List.mem_filter.1 ho).1, fun o ho hy => List.mem_filter.2 ⟨e4 o ho fun y hy2 => hy y (by simp [hy2]), hy x (by simp)⟩⟩⟩
theorem like_mono {j' j : II} {p q : List II} (h : Like j' j p) (hq : ∀ y, y ∈ p → y ∈ q) : Like j' j q := by
  obtain ⟨h1, h2, h3, h4⟩ := h
  exact ⟨h1, h2, h3, h4.imp id fun ⟨n, a, b, av, av', e1, e2, e3, e4⟩ => ⟨n, a, b, av, av', e1, e2, e3, fun o ho hy => e4 o ho fun y hy2 => hy y (hq y hy2)⟩⟩
theorem iiOk_like {P : Program} {N : Nat} {ops : Array Oper} {o : Oper} {j' j : II} {p : List II} (h : Like j' j p) (hok : iiOk P N ops o j = true) : iiOk P N ops o j' = true := by
  obtain ⟨h1, h2, h3, h4⟩ := h
  simp only [iiOk, Bool.and_eq_true] at hok ⊢
  rw [h1, h2]
  refine ⟨hok.1, ?_⟩
  rcases h4 with h4 | ⟨n, a, b, av, av', e1, e2, -, -⟩
  · rw [h4]; exact hok.2
  · rw [e2]; have := hok.2; rw [e1] at this
    exact this
theorem drawI_like {j' j : II} {p : List II} (h : Like j' j p) (hd : drawI j.i = true) : drawI j'.i = true := by
  rcases h.i with h4 | ⟨n, a, b, av, av', e1, e2, -, -⟩
  · rw [h4]; exact hd
  · rw [e2]; rfl
theorem newsX_like {j' j : II} {p : List II} (h : Like j' j p) : newsX j' = newsX j := by
  unfold newsX
  rw [h.dst]
  rcases h.i with h4 | ⟨n, a, b, av, av', e1, e2, -, -⟩
  · rw [h4]
  · rw [e1, e2]; rfl
theorem mapO_sub {α β : Type} {f : α → Option β} : ∀ {l l' : List α} {m : List β}, mapO f l = some m → (∀ x, x ∈ l' → x ∈ l) → ∃ m', mapO f l' = some m' ∧ ∀ y, y ∈ m' → y ∈ m
  | l, [], m, h, _ => ⟨[], rfl, by simp⟩
  | l, x :: r, m, h, hs => by
    obtain ⟨m', h1, h2⟩ := mapO_sub h (l' := r) fun y hy => hs y (by simp [hy])
    obtain ⟨hl, hg⟩ := mapO_spec h
    obtain ⟨i, hi, hx⟩ := List.mem_iff_getElem.1 (hs x (by simp))
    obtain ⟨y, hy1, hy2⟩ := hg i x (by rw [List.getElem?_eq_getElem hi, hx])
    refine ⟨y :: m', by simp [mapO, hy1, h1], fun z hz => ?_⟩
    rcases List.mem_cons.1 hz with rfl | hz
    · exact List.mem_of_getElem? hy2
    · exact h2 z hz
theorem out_like {P : Program} {j' j : II} {p : List II} {E : Nat → Option V} {M : Nat → Option Blk} {K : V → Eff → Prop} (h : Like j' j p) (ho : Out P j E M K) : Out P j' E M K := by
  obtain ⟨h1, h2, h3, h4⟩ := h
  unfold Out at ho ⊢
  rw [h1, h2]
  rcases h4 with h4 | ⟨n, a, b, av, av', e1, e2, e3, -⟩
  · rw [h4]; exact ho
  · split at ho
    · exact ho
    · exact ho
    · rw [e1] at ho
      rw [e2]
      obtain ⟨v, e, hv, hk⟩ := ho
      refine ⟨v, e, ?_, hk⟩
      unfold evD at hv ⊢
      simp only [evI] at hv ⊢
      split at hv
      · split at hv
        · split at hv
          · rename_i qs hqs
            simp only [cond_eq_ite] at hv ⊢
            split at hv
            · rename_i hall
              obtain ⟨m', hm1, hm2⟩ := mapO_sub hqs e3
              have : evs E av' = some m' := hm1
              rw [this]
              simp only []
              rw [if_pos]
              · exact hv
              · rw [List.all_eq_true] at hall ⊢
                exact fun y hy => hall y (hm2 y hy)
            · simp at hv
          · simp at hv
        · simp at hv
      · simp at hv
theorem pairOk_like {x j' j : II} {p : List II} (h : Like j' j p) (hk : ∀ n ag t, x.i = .ld n ag (.t t) → avOut x.dst (.t t) = true ∧ ∀ y, y ∈ p → avOut y.dst (.t t) = true) (hp : pairOk x j = true) : pairOk0 x (dropAv x.dst j') = true := by
  unfold pairOk at hp
  rcases h.i with h4 | ⟨n, a, b, av, av', e1, e2, e3, e4⟩
  · have : dropAv x.dst j' = dropAv x.dst j := by
      obtain ⟨d', i', g', f'⟩ := j'
      obtain ⟨d, i, g, f⟩ := j
      have := h.dst; have := h.g; have := h.fr
      simp only at *
      subst h4
      simp_all
    rw [this]; exact hp
  · unfold dropAv at hp ⊢
    rw [e1] at hp
    rw [e2]
    simp only [pairOk0, Bool.and_eq_true, h.dst] at hp ⊢
    obtain ⟨⟨⟨⟨h1, h2⟩, h3⟩, h5⟩, h6⟩ := hp
    have sub : ∀ t, t ∈ rdX { j' with i := .sta n a b (av'.filter (avOut x.dst)), dst := j.dst } → t ∈ rdX { j with i := .sta n a b (av.filter (avOut x.dst)) } := by
      intro t ht
      simp only [rdX, rdI, h.g, List.mem_append] at ht ⊢
      rcases ht with ht | ht | ht | ht
      · exact .inl ht
      · exact .inr (.inl ht)
      · exact .inr (.inr (.inl ht))
      · refine .inr (.inr (.inr ?_))
        simp only [rdOs, List.mem_flatMap, List.mem_filter] at ht ⊢
        obtain ⟨o, ⟨ho1, ho2⟩, ho3⟩ := ht
        exact ⟨o, ⟨e3 o ho1, ho2⟩, ho3⟩
    refine ⟨⟨⟨⟨?_, h2⟩, ?_⟩, h5⟩, h6⟩
    · cases hx : x.dst with
      | none => rfl
      | some d =>
        rw [hx] at h1 sub
        simp only [Bool.and_eq_true, Bool.not_eq_true', List.contains_eq_mem, decide_eq_false_iff_not] at h1 ⊢
        exact ⟨fun hh => h1.1 (sub d hh), h1.2⟩
    · simp only [kindOk, Bool.or_eq_true, Bool.and_eq_true] at h3 ⊢
      rcases h3 with (h3 | h3) | h3
      · exact .inl (.inl h3)
      · exact .inl (.inr h3)
      · refine .inr ?_
        cases hi : x.i <;> rw [hi] at h3 <;> simp only [] at h3 ⊢ <;> (try (simp at h3; done))
        rename_i n2 ag2 px
        simp only [List.any_eq_true, List.mem_filter] at h3 ⊢
        obtain ⟨o, ⟨ho1, ho2⟩, ho3⟩ := h3
        cases px <;> cases o <;> simp only [opdT] at ho3 <;> (try (simp at ho3; done))
        rename_i tx to
        simp only [Nat.beq_eq] at ho3
        subst ho3
        obtain ⟨q1, q2⟩ := hk n2 ag2 tx hi
        exact ⟨.t tx, ⟨e4 _ ho1 q2, q1⟩, by simp [opdT]⟩
/-- Who is bound to come before, and who may change places. -/
def pairsOk (ord : List (List Nat)) : Nat → List II → List II → Bool
  | _, _, [] => true
  | j, bef, x :: r => (bef.zipIdx.all fun p => (ord.getD j []).contains p.2 || pairOk p.1 x) && pairsOk ord (j + 1) (bef ++ [x]) r
theorem pairsOk_get {ord : List (List Nat)} : ∀ {r bef : List II} {j i : Nat} {x y : II}, bef.length = j → pairsOk ord j bef r = true → i < j + r.length → (bef ++ r)[i]? = some y → j ≤ i → ∀ k, k < i → (bef ++ r)[k]? = some x → (ord.getD i []).contains k = true ∨ pairOk x y = true
  | [], bef, j, i, x, y, hl, h, hi, hy, hj, k, hk, hx => by simp at hi; omega
  | z :: r, bef, j, i, x, y, hl, h, hi, hy, hj, k, hk, hx => by
    simp only [pairsOk, Bool.and_eq_true] at h
    by_cases hij : i = j
    · subst hij
      rw [List.getElem?_append_right (by omega)] at hy
      rw [hl, Nat.sub_self] at hy
      simp only [List.getElem?_cons_zero, Option.some.injEq] at hy
      subst hy
      rw [List.getElem?_append_left (by omega)] at hx
      have := List.all_eq_true.1 h.1 (x, k) (by
        rw [List.mem_zipIdx_iff_getElem?]
        exact hx)
      simpa using this
    · have e : bef ++ z :: r = (bef ++ [z]) ++ r := by simp
      rw [e] at hy hx
      exact pairsOk_get (by simp [hl]) h.2 (by simp only [List.length_cons] at hi; omega) hy (by omega) k hk hx
def drawOk (P : Program) (N : Nat) (ops : Array Oper) (is : List II) (ord : List (List Nat)) : Bool :=
  iisOk P N ops ops.toList is && is.all (fun x => x.fr.isEmpty && drawI x.i) && nodupD is [] && pairsOk ord 0 [] is && ldKeep is && aftersOk ord 0 ops.toList
theorem iisOk_get {P : Program} {N : Nat} {A : Array Oper} : ∀ {l : List Oper} {is : List II}, iisOk P N A l is = true → l.length = is.length ∧ ∀ (i : Nat) o x, l[i]? = some o → is[i]? = some x → iiOk P N A o x = true
  | [], [], _ => ⟨rfl, fun i o x h => by simp at h⟩
  | o :: r, x :: s, h => by
    simp only [iisOk, Bool.and_eq_true] at h
    obtain ⟨h1, h2⟩ := iisOk_get h.2
    refine ⟨by simp [h1], fun i o' x' ho hx => ?_⟩
    cases i with
    | zero => simp at ho hx; subst ho; subst hx; exact h.1
    | succ i => exact h2 i o' x' (by simpa using ho) (by simpa using hx)
  | [], _ :: _, h => by simp [iisOk] at h
  | _ :: _, [], h => by simp [iisOk] at h
/-- What the region is about to write speaks of none of its new blocks. -/
def Old (news : List Nat) (L : List II) (E : Nat → Option V) (M : Nat → Option Blk) : Prop :=
  (∀ x, x ∈ L → ∀ d v, x.dst = some d → E d = some v → ∀ b, b ∈ news → mentions b 5 v = false) ∧ ∀ x, x ∈ L → isAl x.i = true → ∀ d, x.dst = some d → M d = none
theorem set_some {x : II} {E : Nat → Option V} {M : Nat → Option Blk} {v : V} {e : Eff} (hdr : drawI x.i = true) (ho : OutE x E M v e) {b : Nat} {blk : Blk} (hs : e.set = some (b, blk)) : M b ≠ none := by
  rcases ho with ⟨hc, h1 | h1⟩ | ⟨-, rfl⟩
  · rw [h1.2.2] at hs; simp at hs
  · have hp : plainI x.i = true := by simpa [drawI, hc] using hdr
    obtain ⟨-, h1⟩ := h1
    cases hst : (match x.i with | .st _ _ _ => true | .sta _ _ _ _ => true | _ => false) with
    | true =>
      obtain ⟨p, b2, blk2, -, -, he, -, hsh⟩ := st_eff hst h1
      rw [he] at hs
      simp only [Option.some.injEq, Prod.mk.injEq] at hs
      rw [← hs.1]
      rcases hsh with ⟨c, c', h, -⟩ | ⟨t, l, l', h, -⟩ <;> rw [h] <;> simp
    | false =>
      exfalso
      unfold evD at h1
      cases hi : x.i <;> rw [hi] at hp hst h1 <;> (try (simp [plainI, nmI, roI, wrI] at hp; done)) <;> (try (simp at hst; done)) <;> simp only [evI, binK, ldK, rowK, cond_eq_ite] at h1 <;> (repeat' split at h1) <;>
        first
          | (simp at h1; done)
          | (simp only [Option.some.injEq, Prod.mk.injEq] at h1; rw [← h1.2] at hs; simp at hs)
  · simp at hs
theorem old_step {news : List Nat} {y : II} {L : List II} {E : Nat → Option V} {M : Nat → Option Blk} {v : V} {e : Eff} (hdr : drawI y.i = true) (hdis : ∀ x, x ∈ L → ∀ d, y.dst = some d → x.dst ≠ some d) (ho : OutE y E M v e) (hf : FreeF y.dst (cutF e.cut E) (cutM e.cut M) e)
    (h : Old news L E M) : Old news L (putF y.dst v (cutF e.cut E)) (effM (y.dst.getD 0) e M) := by
  refine ⟨fun x hx d u hd hu => h.1 x hx d u hd ?_, fun x hx ha d hd => ?_⟩
  · cases hy : y.dst with
    | none => rw [hy] at hu; exact cutF_some hu
    | some d' =>
      rw [hy] at hu
      simp only [putF] at hu
      rw [if_neg (fun e => hdis x hx d' hy (by rw [hd, e]))] at hu
      exact cutF_some hu
  · have h0 := h.2 x hx ha d hd
    have h1 : cutM e.cut M d = none := by
      cases e.cut with
      | none => exact h0
      | some b => simp only [cutM, up]; split <;> first | rfl | exact h0
    have h2 : (match e.set with | some (b, blk) => up (cutM e.cut M) b (some blk) | none => cutM e.cut M) d = none := by
      cases hs : e.set with
      | none => exact h1
      | some p =>
        obtain ⟨b, blk⟩ := p
        have hb := set_some hdr ho hs
        simp only [up]
        rw [if_neg (fun e => by subst e; exact hb h0)]
        exact h1
    unfold effM
    cases hn : e.new with
    | none => exact h2
    | some blk =>
      have hi := (hf.1 (by rw [hn]; rfl)).1
      obtain ⟨d', hd'⟩ := Option.isSome_iff_exists.1 hi
      simp only [hd', Option.getD_some]
      rw [up_ne _ _ (fun e => hdis x hx d' hd' (by rw [hd, e]))]
      exact h2
section
variable {P : Program} {G : (Nat → Option V) → (Nat → Option Blk) → Prop}
theorem sub_range {U : List Nat} {n : Nat} (hs : U.Pairwise (· < ·)) (hU : ∀ k, k ∈ U → k < n) : U.Sublist (List.range n) := by
  have : ∀ (m s : Nat) (U : List Nat), U.Pairwise (· < ·) → (∀ k, k ∈ U → s ≤ k ∧ k < s + m) → U.Sublist (List.range' s m) := by
    intro m
    induction m with
    | zero =>
      intro s U _ h
      cases U with
      | nil => exact .slnil
      | cons a r => have := h a (by simp); omega
    | succ m ih =>
      intro s U hp h
      rw [List.range'_succ]
      cases U with
      | nil => exact List.nil_sublist _
      | cons a r =>
        have ha := h a (by simp)
        have hr := List.pairwise_cons.1 hp
        by_cases has : a = s
        · subst has
          exact (ih (a + 1) r hr.2 fun k hk => by have := hr.1 k hk; have := h k (by simp [hk]); omega).cons_cons a
        · exact (ih (s + 1) (a :: r) hp fun k hk => by
            have h1 := h k hk
            rcases List.mem_cons.1 hk with rfl | hk2
            · omega
            · have := hr.1 k hk2; omega).cons s
  rw [List.range_eq_range']
  exact this n 0 U hs fun k hk => ⟨Nat.zero_le _, by have := hU k hk; omega⟩
def strip (p : List II) (j : II) : II := p.foldr (fun y j => dropAv y.dst j) j
theorem strip_like (j : II) : ∀ (p : List II), Like (strip p j) j p
  | [] => like_refl j
  | y :: p => like_drop (strip_like j p) y
theorem chain_like {j' j : II} {p r : List II} {E : Nat → Option V} {M : Nat → Option Blk} (hl : Like j' j p) (h : Chain P (j :: r) E M G) : Chain P (j' :: r) E M G := by
  have h' : Out P j E M fun v e => FreeF j.dst (cutF e.cut E) (cutM e.cut M) e ∧ (e.set = none ∨ e.new = none) ∧ Chain P r (putF j.dst v (cutF e.cut E)) (effM (j.dst.getD 0) e M) G := h
  have := out_like hl h'
  rw [← hl.dst] at this
  exact this
/-- One that nothing binds comes first. -/
theorem front {news : List Nat} {j : II} {q : List II} : ∀ {p : List II} {E : Nat → Option V} {M : Nat → Option Blk}, (∀ x, x ∈ p → pairOk x j = true ∧ drawI x.i = true) → ldKeep p = true → (∀ b, b ∈ newsX j → b ∈ news) → (p ++ j :: q).Pairwise (fun x y => ∀ d, x.dst = some d → y.dst ≠ some d) →
    Old news (p ++ j :: q) E M → Chain P (p ++ j :: q) E M G → Chain P (strip p j :: (p ++ q)) E M G
  | [], E, M, _, _, _, _, _, h => h
  | x :: p, E, M, hp, hld, hn, hdis, hold, h => by
    obtain ⟨hx1, hx2⟩ := hp x (by simp)
    rw [List.cons_append] at hdis hold
    have hd := List.pairwise_cons.1 hdis
    simp only [ldKeep, Bool.and_eq_true] at hld
    have hkeep : ∀ n ag t, x.i = .ld n ag (.t t) → avOut x.dst (.t t) = true ∧ ∀ y, y ∈ p → avOut y.dst (.t t) = true := by
      intro n ag t hi
      have h1 := hld.1
      rw [hi] at h1
      simp only [Bool.and_eq_true, List.all_eq_true] at h1
      refine ⟨?_, fun y hy => ?_⟩
      · cases hxd : x.dst with
        | none => rfl
        | some d => have := h1.2; rw [hxd] at this; exact this
      · have := h1.1 y hy
        cases hyd : y.dst with
        | none => rfl
        | some d => rw [hyd] at this; exact this
    have h' : Out P x E M fun v e => FreeF x.dst (cutF e.cut E) (cutM e.cut M) e ∧ (e.set = none ∨ e.new = none) ∧ Chain P (p ++ j :: q) (putF x.dst v (cutF e.cut E)) (effM (x.dst.getD 0) e M) G := h
    have hnx : ∀ b, b ∈ newsX (dropAv x.dst (strip p j)) → b ∈ news := fun b hb => hn b (by
      rw [newsX_like (like_drop (like_refl (strip p j)) x), newsX_like (strip_like j p)] at hb
      exact hb)
    show Chain P (dropAv x.dst (strip p j) :: x :: (p ++ q)) E M G
    refine swap (pairOk_like (strip_like j p) hkeep hx1) (fun d v hd hv b hb => hold.1 x (by simp) d v hd hv b (hnx b hb)) (fun ha _ d hd => hold.2 x (by simp) ha d hd) ?_
    show Out P x E M fun v e => FreeF x.dst (cutF e.cut E) (cutM e.cut M) e ∧ (e.set = none ∨ e.new = none) ∧ Chain P (dropAv x.dst (strip p j) :: (p ++ q)) (putF x.dst v (cutF e.cut E)) (effM (x.dst.getD 0) e M) G
    refine Out_mono (fun v e hk => ?_) (out_and h')
    obtain ⟨ho, hf, hs, hc⟩ := hk
    refine ⟨hf, hs, chain_like (like_drop (like_refl (strip p j)) x) (front (fun y hy => hp y (by simp [hy])) hld.2 hn hd.2 ?_ hc)⟩
    exact old_step hx2 (fun y hy d hxd => hd.1 y hy d hxd) ho hf ⟨fun y hy => hold.1 y (by simp [hy]), fun y hy => hold.2 y (by simp [hy])⟩
theorem ldKeep_sub : ∀ {l m : List II}, l.Sublist m → ldKeep m = true → ldKeep l = true
  | _, _, .slnil, _ => rfl
  | _, _, .cons y h, hm => by simp only [ldKeep, Bool.and_eq_true] at hm; exact ldKeep_sub h hm.2
  | _, _, .cons_cons y h, hm => by
    simp only [ldKeep, Bool.and_eq_true] at hm ⊢
    refine ⟨?_, ldKeep_sub h hm.2⟩
    have h1 := hm.1
    split at h1
    · simp only [Bool.and_eq_true, List.all_eq_true] at h1 ⊢
      exact ⟨fun z hz => h1.1 z (h.subset hz), h1.2⟩
    · rfl
theorem chain_mono {G' : (Nat → Option V) → (Nat → Option Blk) → Prop} : ∀ {is : List II} {E : Nat → Option V} {M : Nat → Option Blk}, (∀ E M, G E M → G' E M) → Chain P is E M G → Chain P is E M G'
  | [], _, _, hg, h => hg _ _ h
  | x :: r, E, M, hg, h => Out_mono (fun _ _ ⟨a, b, c⟩ => ⟨a, b, chain_mono hg c⟩) (show Out P x E M fun v e => FreeF x.dst (cutF e.cut E) (cutM e.cut M) e ∧ (e.set = none ∨ e.new = none) ∧ Chain P r (putF x.dst v (cutF e.cut E)) (effM (x.dst.getD 0) e M) G from h)
variable {F : Fence} {n : Nat} {w1 : World} {B : Nat → Prop} {N : Nat} {D : Fr}
/-- A region, in whatever order it draws. -/
theorem any_sound (hF : Open F) {ops : Array Oper} {is : List II} {ord : List (List Nat)} {news : List Nat} {Q : Exit → Act → World → Prop} (hlen : ops.size = is.length)
    (hii : ∀ (i : Nat) o x, ops[i]? = some o → is[i]? = some x → iiOk P N ops o x = true ∧ drawI x.i = true) (hnews : ∀ x, x ∈ is → ∀ b, b ∈ newsX x → b ∈ news)
    (hdis : is.Pairwise fun x y => ∀ d, x.dst = some d → y.dst ≠ some d) (hpair : ∀ i k x y, i < is.length → is[i]? = some y → k < i → is[k]? = some x → (ord.getD i []).contains k = true ∨ pairOk x y = true)
    (hld : ldKeep is = true) (haft : ∀ (i : Nat) o, ops[i]? = some o → afterOk ord i o = true) (hQ : ∀ E M σ a w, G E M → StF w1 B N D E M σ a w → Q .normal a w) :
    ∀ (fuel : Nat) (U : List Nat) (listed : Array Bool) (E : Nat → Option V) (M : Nat → Option Blk) (σ : Nat → Slot) (a : Act) (w : World), U.length = fuel → U.Pairwise (· < ·) → (∀ i, i ∈ U ↔ i < ops.size ∧ listed.getD i true = false) → listed.size = ops.size →
      (∀ i, i < ops.size → i ∉ U → ∀ k, (ord.getD i []).contains k = true → k ∉ U) → Old news (U.map fun i => is.getD i dII) E M → Chain P (U.map fun i => is.getD i dII) E M G → StF w1 B N D E M σ a w →
      wpAnyIn F n P .any ops Q fuel listed a w := by
  have hX : ∀ i, i < ops.size → is[i]? = some (is.getD i dII) := by
    intro i hi
    rw [hlen] at hi
    rw [List.getElem?_eq_getElem hi]
    simp [List.getD, List.getElem?_eq_getElem hi]
  have unl : ∀ {U : List Nat} {listed : Array Bool}, (∀ i, i ∈ U ↔ i < ops.size ∧ listed.getD i true = false) → ∀ k, listed.getD k false = true → k ∉ U := by
    intro U listed hU k hk hkU
    have := ((hU k).1 hkU).2
    rcases Nat.lt_or_ge k listed.size with h | h
    · simp [h] at this hk; rw [this] at hk; simp at hk
    · simp [Array.getElem?_eq_none h] at hk
  intro fuel
  induction fuel with
  | zero =>
    intro U listed E M σ a w hl hs hU hsz hcl hold hch st
    have : U = [] := List.eq_nil_of_length_eq_zero hl
    subst this
    refine ⟨?_, hQ E M σ a w hch st⟩
    cases hr : Region.ready .any ops listed with
    | nil => rfl
    | cons i r =>
      have hi := (mem_ready (md := .any) (ops := ops)).1 (by rw [hr]; simp : i ∈ Region.ready .any ops listed)
      obtain ⟨h1, o, ho, -⟩ := hi
      have := (hU i).2 ⟨(Array.getElem?_eq_some_iff.1 ho).1, h1⟩
      simp at this
  | succ fuel ih =>
    intro U listed E M σ a w hl hs hU hsz hcl hold hch st
    refine ⟨fun hr => ?_, fun i hi => ?_⟩
    · exfalso
      cases U with
      | nil => simp at hl
      | cons m r =>
        have hm := (hU m).1 (by simp)
        have hgo : m ∈ Region.ready .any ops listed := by
          rw [mem_ready]
          refine ⟨hm.2, ops[m]'hm.1, Array.getElem?_eq_getElem hm.1, fun e he hb => ?_⟩
          have ha := haft m _ (Array.getElem?_eq_getElem hm.1)
          simp only [afterOk, Bool.and_eq_true] at ha
          have h2 := Array.all_eq_true_iff_forall_mem.1 ha.1 e he
          rw [hb] at h2
          simp only [Bool.not_true, Bool.false_or, Nat.blt_eq] at h2
          have hnot : e.on ∉ m :: r := by
            intro h3
            rcases List.mem_cons.1 h3 with h3 | h3
            · omega
            · have := (List.pairwise_cons.1 hs).1 e.on h3; omega
          have hlt : e.on < ops.size := by omega
          have h4 : ¬ (listed.getD e.on true = false) := fun h5 => hnot ((hU e.on).2 ⟨hlt, h5⟩)
          have hlt2 : e.on < listed.size := by omega
          simp [hlt2] at h4 ⊢
          exact h4
        rw [hr] at hgo
        simp at hgo
    · obtain ⟨h1, o, ho, hall⟩ := mem_ready.1 hi
      have hin : i < ops.size := (Array.getElem?_eq_some_iff.1 ho).1
      have hiU := (hU i).2 ⟨hin, h1⟩
      obtain ⟨p, q, rfl⟩ := List.append_of_mem hiU
      have hpw := List.pairwise_append.1 hs
      have hpi : ∀ k, k ∈ p → k < i := fun k hk => hpw.2.2 k hk i (by simp)
      have hqi : ∀ k, k ∈ q → i < k := fun k hk => (List.pairwise_cons.1 hpw.2.1).1 k hk
      have ha := haft i o ho
      simp only [afterOk, Bool.and_eq_true] at ha
      have hordU : ∀ k, (ord.getD i []).contains k = true → k ∉ p ++ i :: q := by
        intro k hk
        have h2 := List.all_eq_true.1 ha.2 k (by simpa using hk)
        rw [Array.any_eq_true'] at h2
        obtain ⟨e, he, h2⟩ := h2
        simp only [Bool.and_eq_true, Bool.or_eq_true, Nat.beq_eq] at h2
        obtain ⟨hb, h2⟩ := h2
        have hon := unl hU e.on (hall e he hb)
        rcases h2 with rfl | h2
        · exact hon
        · have h3 := Array.all_eq_true_iff_forall_mem.1 ha.1 e he
          rw [hb] at h3
          simp only [Bool.not_true, Bool.false_or, Nat.blt_eq] at h3
          exact hcl e.on (by omega) hon k h2
      obtain ⟨hok, hdr⟩ := hii i o _ ho (hX i hin)
      rw [List.map_append, List.map_cons] at hch hold
      -- the instructions that are left are distinct
      have hsub : ((p ++ i :: q).map fun i => is.getD i dII).Pairwise fun x y => ∀ d, x.dst = some d → y.dst ≠ some d := by
        rw [List.pairwise_map]
        refine hs.imp_of_mem fun {u v} hu hv huv d hd => ?_
        have h3 := (hU u).1 hu
        have h4 := (hU v).1 hv
        have h5 := List.pairwise_iff_getElem.1 hdis u v (by rw [← hlen]; exact h3.1) (by rw [← hlen]; exact h4.1) huv d
        have e1 := hX u h3.1
        have e2 := hX v h4.1
        rw [List.getElem?_eq_getElem (by rw [← hlen]; exact h3.1)] at e1
        rw [List.getElem?_eq_getElem (by rw [← hlen]; exact h4.1)] at e2
        simp only [Option.some.injEq] at e1 e2
        rw [← e2]
        exact h5 (by rw [e1]; exact hd)
      rw [List.map_append, List.map_cons] at hsub
      have hfr := front (P := P) (G := G) (news := news) (p := p.map fun i => is.getD i dII) (j := is.getD i dII) (q := q.map fun i => is.getD i dII) (E := E) (M := M) (fun x hx => by
        obtain ⟨k, hk, rfl⟩ := List.mem_map.1 hx
        have hkn := ((hU k).1 (by simp [hk])).1
        have hko : ∃ ok, ops[k]? = some ok := ⟨_, Array.getElem?_eq_getElem hkn⟩
        obtain ⟨ok, hok2⟩ := hko
        refine ⟨(hpair i k _ _ (by rw [← hlen]; exact hin) (hX i hin) (hpi k hk) (hX k hkn)).resolve_left fun h5 => hordU k h5 (by simp [hk]), (hii k ok _ hok2 (hX k hkn)).2⟩)
        (ldKeep_sub (m := is) ?_ hld) (fun b hb => hnews _ (List.mem_of_getElem? (hX i hin)) b hb) hsub hold hch
      rotate_left
      · have hsr : p.Sublist (List.range ops.size) := by
          refine (List.sublist_append_left p (i :: q)).trans ?_
          exact sub_range hs fun k hk => ((hU k).1 hk).1
        have e5 : is = (List.range ops.size).map fun i => is.getD i dII := by
          apply List.ext_getElem
          · simp [hlen]
          · intro u h6 h7
            simp [List.getElem?_eq_getElem h6]
        conv => rhs; rw [e5]
        exact hsr.map _
      have hun : wpOpIn F n P ops Q i (wpAnyIn F n P .any ops Q fuel (listed.setIfInBounds i true)) a w = (if Region.wanted o (yielded ops a.tmps) then o.wpIn F n P a w (wpAnyIn F n P .any ops Q fuel (listed.setIfInBounds i true)) Q else (∀ f, o.about P w a.eval = some f → F.fn f) ∧ wpAnyIn F n P .any ops Q fuel (listed.setIfInBounds i true) (a.put o.dst undef) w) := by
        simp only [wpOpIn, ho]
      rw [hun]
      have hnd := List.pairwise_append.1 hsub
      have hlk := strip_like (is.getD i dII) (p.map fun i => is.getD i dII)
      refine out_sound (C := fun E' M' => Old news ((p ++ q).map fun i => is.getD i dII) E' M' ∧ Chain P ((p ++ q).map fun i => is.getD i dII) E' M' G) hF st (iiOk_like hlk hok) (drawI_like hlk hdr) ?_ (fun E' M' σ' a' w' hc st' => ?_)
      · generalize hjj : strip (p.map fun i => is.getD i dII) (is.getD i dII) = jj at hfr hlk
        have h6 : Out P jj E M fun v e => FreeF jj.dst (cutF e.cut E) (cutM e.cut M) e ∧ (e.set = none ∨ e.new = none) ∧ Chain P ((p.map fun i => is.getD i dII) ++ (q.map fun i => is.getD i dII)) (putF jj.dst v (cutF e.cut E)) (effM (jj.dst.getD 0) e M) G := hfr
        refine Out_mono (fun v e hk => ?_) (out_and h6)
        obtain ⟨hoe, hf, hse, hc⟩ := hk
        refine ⟨hf, hse, ?_, by rw [List.map_append]; exact hc⟩
        rw [List.map_append]
        refine old_step (drawI_like hlk hdr) (fun x hx d hd => ?_) hoe hf ⟨fun x hx => hold.1 x ?_, fun x hx => hold.2 x ?_⟩
        · rw [hlk.dst] at hd
          rcases List.mem_append.1 hx with hx | hx
          · intro hxd
            exact hnd.2.2 x hx (is.getD i dII) (by simp) d hxd hd
          · exact (List.pairwise_cons.1 hnd.2.1).1 x hx d hd
        · rcases List.mem_append.1 hx with hx | hx
          · exact List.mem_append_left _ hx
          · exact List.mem_append_right _ (List.mem_cons_of_mem _ hx)
        · rcases List.mem_append.1 hx with hx | hx
          · exact List.mem_append_left _ hx
          · exact List.mem_append_right _ (List.mem_cons_of_mem _ hx)
      · refine ih (p ++ q) (listed.setIfInBounds i true) E' M' σ' a' w' (by simp only [List.length_append, List.length_cons] at hl ⊢; omega) ?_ (fun k => ?_) (by simpa using hsz) ?_ hc.1 hc.2 st'
        · rw [List.pairwise_append]
          exact ⟨hpw.1, (List.pairwise_cons.1 hpw.2.1).2, fun x hx y hy => hpw.2.2 x hx y (by simp [hy])⟩
        · by_cases hki : k = i
          · subst hki
            have hnp : k ∉ p ++ q := by
              intro h7
              rcases List.mem_append.1 h7 with h7 | h7
              · have := hpi k h7; omega
              · have := hqi k h7; omega
            have hlt2 : k < listed.size := by omega
            simp [hnp, hlt2]
          · rw [getD_set_ne true (Ne.symm hki), ← hU k]
            simp [hki]
        · intro k hk hkU k2 hk2
          by_cases hki : k = i
          · subst hki
            intro h8
            refine hordU k2 hk2 ?_
            rcases List.mem_append.1 h8 with h8 | h8
            · exact List.mem_append_left _ h8
            · exact List.mem_append_right _ (by simp [h8])
          · have h9 : k ∉ p ++ i :: q := by
              intro h8
              rcases List.mem_append.1 h8 with h8 | h8
              · exact hkU (List.mem_append_left _ h8)
              · rcases List.mem_cons.1 h8 with h8 | h8
                · exact hki h8
                · exact hkU (List.mem_append_right _ h8)
            have h10 := hcl k hk h9 k2 hk2
            intro h8
            refine h10 ?_
            rcases List.mem_append.1 h8 with h8 | h8
            · exact List.mem_append_left _ h8
            · exact List.mem_append_right _ (by simp [h8])
end
end Go.Ge
