/- Instructions that may change places. -/
import Derived.Test.YtneeobmefioenaaGeCode2
namespace Go.Ge
open Go Go.RowKit

/-! ### What an instruction looks at -/
def rdO : Opd → List Nat
  | .t n => [n]
  | _ => []
def rdOs (l : List Opd) : List Nat := l.flatMap rdO
def rdOp : Option Opd → List Nat
  | some o => rdO o
  | none => []
def rdI : I → List Nat
  | .mv x => rdO x
  | .pick c a b => rdO c ++ (rdO a ++ rdO b)
  | .al _ => []
  | .bx x => rdO x
  | .bd _ ps => ps.flatMap fun p => rdO p.2.2
  | .bsl _ _ ps => rdOs ps
  | .ld _ _ p => rdO p
  | .st _ p x => rdO p ++ rdO x
  | .sta _ p x av => rdO p ++ (rdO x ++ rdOs av)
  | .bin _ _ _ x y => rdO x ++ rdO y
  | .un _ x => rdO x
  | .cv _ x => rdO x
  | .mf _ cs => rdOs cs
  | .fa _ p => rdO p
  | .fd _ _ _ x => rdO x
  | .ixs _ x i => rdO x ++ rdO i
  | .ixp _ _ p i => rdO p ++ rdO i
  | .ixv _ _ _ x i => rdO x ++ rdO i
  | .slc _ x lo hi mx => rdO x ++ (rdOp lo ++ (rdOp hi ++ rdOp mx))
  | .sla _ _ p => rdO p
  | .s2a _ x => rdO x
  | .ex x _ => rdO x
  | .call f args => rdO f ++ rdOs args
  | .mcall f args => rdO f ++ rdOs args
  | .srt _ x c => rdO x ++ rdO c
  | .len _ x => rdO x
  | .mx l => rdOs l
  | .mn l => rdOs l
  | .app _ _ x y => rdO x ++ rdO y
  | .mkm _ _ _ _ => []
  | .mpu _ _ m k v => rdO m ++ (rdO k ++ rdO v)
  | .rng m => rdO m
  | .nxt i => rdO i
  | .ent i => rdO i
  | .nck x => rdO x
  | .inil _ x => rdO x
  | .grow _ _ x => rdO x
  | .nope => []
theorem ev_congr {E E' : Nat → Option V} {o : Opd} (h : ∀ t, t ∈ rdO o → E' t = E t) : ev E' o = ev E o := by
  cases o with
  | t n => exact h n (by simp [rdO])
  | c v => rfl
  | f n => rfl
theorem mapO_congr {α β : Type} {f g : α → Option β} : ∀ {l : List α}, (∀ x, x ∈ l → f x = g x) → mapO f l = mapO g l
  | [], _ => rfl
  | x :: r, h => by simp only [mapO, h x (by simp), mapO_congr (l := r) fun y hy => h y (by simp [hy])]
theorem evs_congr {E E' : Nat → Option V} {l : List Opd} (h : ∀ t, t ∈ rdOs l → E' t = E t) : evs E' l = evs E l :=
  mapO_congr fun o ho => ev_congr fun t ht => h t (by simp only [rdOs, List.mem_flatMap]; exact ⟨o, ho, ht⟩)
theorem intO_congr {E E' : Nat → Option V} {o : Option Opd} {d : Int} (h : ∀ t, t ∈ rdOp o → E' t = E t) : intO E' o d = intO E o d := by
  cases o with
  | none => rfl
  | some o => simp only [intO, ev_congr (o := o) h]
theorem evI_congr {R : Type} {H : Hk R} {i : I} {d : Nat} {E E' : Nat → Option V} {M : Nat → Option Blk} {k : V → Eff → Option R} (h : ∀ t, t ∈ rdI i → E' t = E t) : evI H i d E' M k = evI H i d E M k := by
  have e1 : ∀ {o : Opd}, (∀ t, t ∈ rdO o → t ∈ rdI i) → ev E' o = ev E o := fun ho => ev_congr fun t ht => h t (ho t ht)
  have e2 : ∀ {l : List Opd}, (∀ t, t ∈ rdOs l → t ∈ rdI i) → evs E' l = evs E l := fun ho => evs_congr fun t ht => h t (ho t ht)
  have e3 : ∀ {o : Option Opd} {dd : Int}, (∀ t, t ∈ rdOp o → t ∈ rdI i) → intO E' o dd = intO E o dd := fun ho => intO_congr fun t ht => h t (ho t ht)
  cases i
  case bd zs ps =>
    simp only [evI]
    rw [mapO_congr (f := partV E') (g := partV E) fun p hp => by
      simp only [partV]
      rw [e1 (o := p.2.2) fun t ht => by simp only [rdI, List.mem_flatMap]; exact ⟨p, hp, ht⟩]]
  case slc sz x lo hi mx =>
    simp only [evI]
    rw [e1 (o := x) fun t ht => by simp [rdI, ht], e3 (o := lo) fun t ht => by simp [rdI, ht]]
    cases mx with
    | none =>
      have : ∀ (l : Int), intO E' hi l = intO E hi l := fun l => e3 (o := hi) fun t ht => by simp [rdI, ht]
      simp only [this]
    | some m =>
      have : ∀ (l : Int), intO E' hi l = intO E hi l := fun l => e3 (o := hi) fun t ht => by simp [rdI, ht]
      simp only [this, e1 (o := m) fun t ht => by simp [rdI, rdOp, ht]]
  case mv x => simp only [evI, e1 (o := x) fun t ht => by simp [rdI, ht]]
  case pick c a b => simp only [evI, e1 (o := c) fun t ht => by simp [rdI, ht], e1 (o := a) fun t ht => by simp [rdI, ht], e1 (o := b) fun t ht => by simp [rdI, ht]]
  case al zs => rfl
  case bx x => simp only [evI, e1 (o := x) fun t ht => by simp [rdI, ht]]
  case bsl t o l => simp only [evI, e2 (l := l) fun t ht => by simp [rdI, ht]]
  case ld n a x => simp only [evI, e1 (o := x) fun t ht => by simp [rdI, ht]]
  case st n p x => simp only [evI, e1 (o := p) fun t ht => by simp [rdI, ht], e1 (o := x) fun t ht => by simp [rdI, ht]]
  case sta n p x l => simp only [evI, e1 (o := p) fun t ht => by simp [rdI, ht], e1 (o := x) fun t ht => by simp [rdI, ht], e2 (l := l) fun t ht => by simp [rdI, ht]]
  case bin op ag ls p x => simp only [evI, e1 (o := p) fun t ht => by simp [rdI, ht], e1 (o := x) fun t ht => by simp [rdI, ht]]
  case un op x => simp only [evI, e1 (o := x) fun t ht => by simp [rdI, ht]]
  case cv k x => simp only [evI, e1 (o := x) fun t ht => by simp [rdI, ht]]
  case mf f l => simp only [evI, e2 (l := l) fun t ht => by simp [rdI, ht]]
  case fa o x => simp only [evI, e1 (o := x) fun t ht => by simp [rdI, ht]]
  case fd o n a x => simp only [evI, e1 (o := x) fun t ht => by simp [rdI, ht]]
  case ixs s p x => simp only [evI, e1 (o := p) fun t ht => by simp [rdI, ht], e1 (o := x) fun t ht => by simp [rdI, ht]]
  case ixp n s p x => simp only [evI, e1 (o := p) fun t ht => by simp [rdI, ht], e1 (o := x) fun t ht => by simp [rdI, ht]]
  case ixv n s a p x => simp only [evI, e1 (o := p) fun t ht => by simp [rdI, ht], e1 (o := x) fun t ht => by simp [rdI, ht]]
  case sla t n x => simp only [evI, e1 (o := x) fun t ht => by simp [rdI, ht]]
  case s2a n x => simp only [evI, e1 (o := x) fun t ht => by simp [rdI, ht]]
  case ex x j => simp only [evI, e1 (o := x) fun t ht => by simp [rdI, ht]]
  case call x l => simp only [evI, e1 (o := x) fun t ht => by simp [rdI, ht], e2 (l := l) fun t ht => by simp [rdI, ht]]
  case mcall x l => rfl
  case srt f p x => simp only [evI, e1 (o := p) fun t ht => by simp [rdI, ht], e1 (o := x) fun t ht => by simp [rdI, ht]]
  case len s x => simp only [evI, e1 (o := x) fun t ht => by simp [rdI, ht]]
  case mx l => simp only [evI, e2 (l := l) fun t ht => by simp [rdI, ht]]
  case mn l => simp only [evI, e2 (l := l) fun t ht => by simp [rdI, ht]]
  case app t b p x => simp only [evI, e1 (o := p) fun t ht => by simp [rdI, ht], e1 (o := x) fun t ht => by simp [rdI, ht]]
  case mkm a b c e => rfl
  case mpu ag ls p x y => simp only [evI, e1 (o := p) fun t ht => by simp [rdI, ht], e1 (o := x) fun t ht => by simp [rdI, ht], e1 (o := y) fun t ht => by simp [rdI, ht]]
  case rng x => simp only [evI, e1 (o := x) fun t ht => by simp [rdI, ht]]
  case nxt x => simp only [evI, e1 (o := x) fun t ht => by simp [rdI, ht]]
  case ent x => simp only [evI, e1 (o := x) fun t ht => by simp [rdI, ht]]
  case nck x => simp only [evI, e1 (o := x) fun t ht => by simp [rdI, ht]]
  case inil b x => simp only [evI, e1 (o := x) fun t ht => by simp [rdI, ht]]
  case grow f t x => simp only [evI, e1 (o := x) fun t ht => by simp [rdI, ht]]
  case nope => rfl

/-! ### Kinds of instructions -/
/-- Neither reads memory nor writes it. -/
def nmI : I → Bool
  | .mv _ | .pick _ _ _ | .bd _ _ | .bin _ _ _ _ _ | .un _ _ | .cv _ _ | .mf _ _ | .fa _ _ | .fd _ _ _ _ | .ixp _ _ _ _ | .ixv _ _ _ _ _ | .slc _ _ _ _ _ | .sla _ _ _ | .s2a _ _ | .ex _ _ | .mx _ | .mn _ | .nck _ => true
  | .bsl _ own _ => !own
  | _ => false
/-- Reads it alone. -/
def roI : I → Bool
  | .ld _ _ _ | .ixs _ _ _ | .len _ _ => true
  | _ => false
def callI : I → Bool
  | .call _ _ => true
  | _ => false
def wrI : I → Bool
  | .al _ | .bx _ | .bsl _ _ _ | .st _ _ _ | .sta _ _ _ _ => true
  | _ => false
/-- Gives one answer, out of what it looks at. -/
def detI : I → Bool
  | .call _ _ | .mcall _ _ | .srt _ _ _ | .nxt _ => false
  | _ => true
def H0 : Hk (V × Eff) := { C := fun _ _ _ => none, S := fun _ _ _ _ _ => none, J := fun _ => none, N := 0 }
def evD (i : I) (d : Nat) (E : Nat → Option V) (M : Nat → Option Blk) : Option (V × Eff) := evI H0 i d E M fun v e => some (v, e)
theorem nm_mem {R : Type} {H : Hk R} {i : I} {d : Nat} {E : Nat → Option V} {M M' : Nat → Option Blk} {k : V → Eff → Option R} (h : nmI i = true) : evI H i d E M' k = evI H i d E M k := by
  cases i <;> first | (simp [nmI] at h; done) | rfl
theorem al_mem {R : Type} {H : Hk R} {zs : List V} {d : Nat} {E : Nat → Option V} {M M' : Nat → Option Blk} {k : V → Eff → Option R} : evI H (.al zs) d E M' k = evI H (.al zs) d E M k := rfl
theorem nm_eff {i : I} {d : Nat} {E : Nat → Option V} {M : Nat → Option Blk} {v : V} {e : Eff} (h : nmI i = true ∨ roI i = true) (he : evD i d E M = some (v, e)) : e = {} := by
  unfold evD at he
  cases i <;> (try (simp [nmI, roI] at h; done)) <;> simp only [evI, binK, ldK, rowK] at he <;> (try simp only [nmI, roI, Bool.not_eq_true', Bool.false_eq_true, or_false] at h) <;> (try subst h) <;> (try simp only [cond_eq_ite, cond_false, Bool.false_eq_true, if_false] at he) <;> (repeat' split at he) <;> first | (simp at he; done) | (simp only [Option.some.injEq, Prod.mk.injEq] at he; exact he.2.symm)
end Go.Ge
