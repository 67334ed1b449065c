/- How the evaluator's values stand to the model's: the relation VR, what keeps it, and what a frame's blocks are. -/
import Derived.Below
import Derived.CallsIn
import Derived.Laws.World
import Derived.Laws.Sem
import Derived.Test.YtneeobmefioenaaGeEv
namespace Go.Ge
open Go Go.RowKit

/-- Nothing below B is turned; draws are counted on. -/
structure Below (B : Nat) (w w' : World) : Prop where
  os : w'.os = w.os
  tape : w'.tape = w.tape
  output : w'.output = w.output ∧ w.drawn ≤ w'.drawn
  size : w.heap.size ≤ w'.heap.size
  block : ∀ k, k < B → w'.heap[k]? = w.heap[k]?
theorem Below.refl (B : Nat) (w : World) : Below B w w := ⟨rfl, rfl, ⟨rfl, Nat.le_refl _⟩, Nat.le_refl _, fun _ _ => rfl⟩
theorem Below.trans {B : Nat} {a b c : World} (h : Below B a b) (k : Below B b c) : Below B a c :=
  ⟨k.os.trans h.os, k.tape.trans h.tape, ⟨k.output.1.trans h.output.1, Nat.le_trans h.output.2 k.output.2⟩, Nat.le_trans h.size k.size, fun i hi => (k.block i hi).trans (h.block i hi)⟩
theorem Below.mono {B B' : Nat} {w w' : World} (h : Below B w w') (hB : B' ≤ B) : Below B' w w' := ⟨h.os, h.tape, h.output, h.size, fun k hk => h.block k (Nat.lt_of_lt_of_le hk hB)⟩
theorem Below.drew {B : Nat} {a w : World} (h : Below B a w) : Below B a w.drew := ⟨h.os, h.tape, ⟨h.output.1, Nat.le_succ_of_le h.output.2⟩, h.size, h.block⟩
theorem Below.heap_alloc (w : World) (o : Obj) (k : Nat) (h : k < w.heap.size) : (w.alloc o).heap[k]? = w.heap[k]? := RowKit.Below.heap_alloc w o k h
theorem Below.heap_setCell (w : World) (a : Addr) (u : Value) (k : Nat) (h : k ≠ a.block) : (w.setCell a u).heap[k]? = w.heap[k]? := RowKit.Below.heap_setCell w a u k h
theorem Below.alloc {B : Nat} {a w : World} (h : Below B a w) (hB : B ≤ w.heap.size) (o : Obj) : Below B a (w.alloc o) :=
  h.trans ⟨rfl, rfl, ⟨rfl, Nat.le_refl _⟩, by simp, fun k hk => Below.heap_alloc _ _ _ (by omega)⟩
theorem Below.go {B : Nat} {w w' : World} (h : Below B w w') : RowKit.Below B w w' := ⟨h.os, h.tape, h.output.1, h.size, h.block⟩

/-- Where a block of one's own lies, and (a row) the slice that it is; a frame's variables; a loop's record. -/
structure Slot where
  blk : Nat
  a : Option Addr := none
  len : Nat := 0
  cap : Nat := 0
  tm : Array Value := #[]
  lp : Option Loop := none
def Slot.sv (s : Slot) : Value := .slice s.a s.len s.cap
/-- What the relation speaks of: the world, the blocks that may be written, where they lie, the blocks that are lent. -/
structure Cx where
  w : World
  own : Nat → Prop
  σ : Nat → Slot
  B : Nat → Prop

def Cells (w : World) (b o : Nat) (cs : List Value) : Prop := ∀ (j : Nat) v, cs[j]? = some v → w.cell? ⟨b, o + j, none⟩ = some v
mutual
inductive VR (c : Cx) : V → Value → Prop
  | b (x : Bool) : VR c (.b x) (.bool x)
  | i (k : IntKind) (n : Int) : VR c (.i k n) (.int k n)
  | s (x : ByteArray) : VR c (.s x) (.string x)
  | slE (t : Ty) (bor ex : Bool) (a : Option Addr) (cap : Nat) (hx : ex = true → cap = 0) : VR c (.sl t [] bor ex) (.slice a 0 cap)
  | slN (t : Ty) (l : List (T t)) (bor ex : Bool) (blk off cap : Nat) (cs : List Value) (hb : blk < c.w.heap.size) (ho : ¬ c.own blk) (hB : bor = false → ¬ c.B blk)
      (hcap : l.length ≤ cap) (hx : ex = true → cap = l.length) (hc : Cells c.w blk off cs) (hs : VRs c (l.flatMap (unpack bor t)) cs) :
      VR c (.sl t l bor ex) (.slice (some ⟨blk, off, none⟩) l.length cap)
  | agg (cs : List V) (cs' : List Value) (hs : cs.all scal = true) (h : VRs c cs cs') : VR c (.agg cs) (.agg cs'.toArray)
  | tup (cs : List V) (cs' : List Value) (h : VRs c cs cs') : VR c (.tup cs) (.tuple cs'.toArray)
  | pc (cs : List V) (off : Nat) (bor : Bool) (blk o : Nat) (cs' : List Value) (hb : blk < c.w.heap.size) (ho : ¬ c.own blk) (hB : bor = false → ¬ c.B blk)
      (hs : cs.all scal = true) (hc : Cells c.w blk o cs') (h : VRs c cs cs') : VR c (.pc cs off bor) (.pointer (some ⟨blk, o + off, none⟩))
  | pz : VR c .pz (.pointer none)
  | pb (k off : Nat) : VR c (.pb k off) (.pointer (some ⟨(c.σ k).blk, off, none⟩))
  | pr (k idx sz off : Nat) : VR c (.pr k idx sz off) (.pointer (some ⟨(c.σ k).blk, idx * sz + off, none⟩))
  | bs (k : Nat) : VR c (.bs k) (c.σ k).sv
  | fn (f : Nat) (cs : List V) (cs' : List Value) (h : VRs c cs cs') : VR c (.fn f cs) (.func (.func f) #[] cs'.toArray)
  | fz : VR c .fz .nilFunc
  | mp (k : Nat) : VR c (.mp k) (.map (some (c.σ k).blk))
  | mz : VR c .mz (.map none)
  | it (k : Nat) : VR c (.it k) (.pointer (some ⟨(c.σ k).blk, 0, none⟩))
  | nif : VR c .nif .nilIface
  | yf (q : Nat) : VR c (.yf q) (.func (.yield (c.σ q).blk) #[] #[])
inductive VRs (c : Cx) : List V → List Value → Prop
  | nil : VRs c [] []
  | cons {x : V} {x' : Value} {xs : List V} {xs' : List Value} (h : VR c x x') (hs : VRs c xs xs') : VRs c (x :: xs) (x' :: xs')
end

theorem VRs.length {c : Cx} : ∀ {xs : List V} {xs' : List Value}, VRs c xs xs' → xs.length = xs'.length
  | _, _, .nil => rfl
  | _, _, .cons _ hs => by simp [VRs.length hs]
theorem VRs.get {c : Cx} : ∀ {xs : List V} {xs' : List Value}, VRs c xs xs' → ∀ {j : Nat} {x : V}, xs[j]? = some x → ∃ x', xs'[j]? = some x' ∧ VR c x x'
  | _, _, .nil, _, _, h => by simp at h
  | _, _, .cons h hs, 0, _, e => by simp at e; subst e; exact ⟨_, rfl, h⟩
  | _, _, .cons h hs, j + 1, _, e => by simp at e; obtain ⟨x', e', h'⟩ := VRs.get hs e; exact ⟨x', by simpa using e', h'⟩
theorem VRs.append {c : Cx} : ∀ {xs : List V} {xs' : List Value}, VRs c xs xs' → ∀ {ys ys'}, VRs c ys ys' → VRs c (xs ++ ys) (xs' ++ ys')
  | _, _, .nil, _, _, h => h
  | _, _, .cons h hs, _, _, h' => .cons h (VRs.append hs h')
theorem VRs.split {c : Cx} : ∀ {xs ys : List V} {zs : List Value}, VRs c (xs ++ ys) zs → ∃ xs' ys', zs = xs' ++ ys' ∧ VRs c xs xs' ∧ VRs c ys ys'
  | [], _, zs, h => ⟨[], zs, rfl, .nil, h⟩
  | x :: xs, ys, _, .cons h hs => by
    obtain ⟨a, b, rfl, h1, h2⟩ := VRs.split (xs := xs) hs
    exact ⟨_ :: a, b, rfl, .cons h h1, h2⟩
theorem VRs.map {c c' : Cx} : ∀ {xs : List V} {xs' : List Value}, VRs c xs xs' → (∀ x x', x ∈ xs → VR c x x' → VR c' x x') → VRs c' xs xs'
  | _, _, .nil, _ => .nil
  | _, _, .cons h hs, f => .cons (f _ _ (by simp) h) (VRs.map hs fun x x' m => f x x' (by simp [m]))

theorem mentions_unpack_n (k n : Nat) (bor : Bool) : ∀ (t : Ty) (y : T t) (x : V), x ∈ unpack bor t y → mentions k (n + 1) x = false
  | .bool, y, x, h => by simp [unpack] at h; subst h; rfl
  | .int _, y, x, h => by simp [unpack] at h; subst h; rfl
  | .str, y, x, h => by simp [unpack] at h; subst h; rfl
  | .unit, y, x, h => by simp [unpack] at h
  | .prod a b, y, x, h => by
    simp [unpack] at h
    rcases h with h | h
    · exact mentions_unpack_n k n bor a _ x h
    · exact mentions_unpack_n k n bor b _ x h
  | .slice t, y, x, h => by simp [unpack] at h; subst h; rfl
theorem mentions_unpack (k : Nat) (bor : Bool) (t : Ty) (y : T t) (x : V) (h : x ∈ unpack bor t y) : mentions k 1 x = false := mentions_unpack_n k 0 bor t y x h
theorem scal_unpack (bor : Bool) : ∀ (t : Ty) (y : T t), (unpack bor t y).all scal = true
  | .bool, y => rfl
  | .int _, y => rfl
  | .str, y => rfl
  | .unit, y => rfl
  | .prod a b, y => by simp only [unpack, List.all_append, scal_unpack bor a y.1, scal_unpack bor b y.2, Bool.and_true]
  | .slice t, y => rfl
theorem length_unpack (bor : Bool) : ∀ (t : Ty) (y : T t), (unpack bor t y).length = tsize t
  | .bool, y => rfl
  | .int _, y => rfl
  | .str, y => rfl
  | .unit, y => rfl
  | .prod a b, y => by simp only [unpack, List.length_append, length_unpack bor a y.1, length_unpack bor b y.2, tsize]
  | .slice t, y => rfl
theorem unpack_flat (b b' : Bool) : ∀ (t : Ty) (y : T t), flat t = true → unpack b t y = unpack b' t y
  | .bool, y, _ => rfl
  | .int _, y, _ => rfl
  | .str, y, _ => rfl
  | .unit, y, _ => rfl
  | .prod a c, y, h => by
    simp only [flat, Bool.and_eq_true] at h
    simp only [unpack, unpack_flat b b' a y.1 h.1, unpack_flat b b' c y.2 h.2]
  | .slice t, y, h => by simp [flat] at h
theorem length_flat (bor : Bool) (t : Ty) : ∀ (l : List (T t)), (l.flatMap (unpack bor t)).length = l.length * tsize t
  | [] => by simp
  | x :: r => by
    have := length_flat bor t r
    simp only [List.flatMap_cons, List.length_append, length_unpack, this, List.length_cons]
    rw [Nat.add_mul]; omega

/-- From one moment to a later one. -/
structure Later (c c' : Cx) : Prop where
  size : c.w.heap.size ≤ c'.w.heap.size
  heap : ∀ r, r < c.w.heap.size → ¬ c.own r → c'.w.heap[r]? = c.w.heap[r]?
  own : ∀ r, r < c.w.heap.size → c'.own r → c.own r
  B : ∀ r, r < c.w.heap.size → c'.B r → c.B r ∨ c.own r

theorem cell_of_heap {w w' : World} {a : Addr} (h : w'.heap[a.block]? = w.heap[a.block]?) : w'.cell? a = w.cell? a := by
  simp only [World.cell?, h]
theorem Cells.later {c c' : Cx} (L : Later c c') {b o : Nat} {cs : List Value} (hb : b < c.w.heap.size) (ho : ¬ c.own b) (h : Cells c.w b o cs) : Cells c'.w b o cs := by
  intro j v hj
  rw [cell_of_heap (L.heap b hb ho)]
  exact h j v hj

mutual
theorem VR.later {c c' : Cx} (L : Later c c') : ∀ {v : V} {v' : Value}, VR c v v' → (∀ k, (∃ n, mentions k n v = false) ∨ c'.σ k = c.σ k) → VR c' v v'
  | _, _, .b x, _ => .b x
  | _, _, .i k n, _ => .i k n
  | _, _, .s x, _ => .s x
  | _, _, .slE t bor ex a cap hx, _ => .slE t bor ex a cap hx
  | _, _, .slN t l bor ex blk off cap cs hb ho hB hcap hx hc hs, _ =>
    .slN t l bor ex blk off cap cs (Nat.lt_of_lt_of_le hb L.size) (fun h => ho (L.own _ hb h)) (fun e h => (L.B _ hb h).elim (hB e) ho) hcap hx (hc.later L hb ho)
      (VRs.later L hs fun x hx k => .inl (by
        simp only [List.mem_flatMap] at hx
        obtain ⟨y, _, hy⟩ := hx
        exact ⟨1, mentions_unpack k bor t y x hy⟩))
  | _, _, .agg cs cs' hs h, hm => .agg cs cs' hs (VRs.later L h fun x hx k => by
      rcases hm k with ⟨n, hn⟩ | e
      · cases n with
        | zero => simp [mentions] at hn
        | succ n => simp only [mentions, List.any_eq_false] at hn; exact .inl ⟨n, by simpa using hn x hx⟩
      · exact .inr e)
  | _, _, .tup cs cs' h, hm => .tup cs cs' (VRs.later L h fun x hx k => by
      rcases hm k with ⟨n, hn⟩ | e
      · cases n with
        | zero => simp [mentions] at hn
        | succ n => simp only [mentions, List.any_eq_false] at hn; exact .inl ⟨n, by simpa using hn x hx⟩
      · exact .inr e)
  | _, _, .pc cs off bor blk o cs' hb ho hB hs hc h, hm =>
    .pc cs off bor blk o cs' (Nat.lt_of_lt_of_le hb L.size) (fun h => ho (L.own _ hb h)) (fun e h => (L.B _ hb h).elim (hB e) ho) hs (hc.later L hb ho)
      (VRs.later L h fun x hx k => by
        rcases hm k with ⟨n, hn⟩ | e
        · cases n with
          | zero => simp [mentions] at hn
          | succ n => simp only [mentions, List.any_eq_false] at hn; exact .inl ⟨n, by simpa using hn x hx⟩
        · exact .inr e)
  | _, _, .pz, _ => .pz
  | _, _, .pb k off, hm => by
    have e : c'.σ k = c.σ k := (hm k).resolve_left (by rintro ⟨n, hn⟩; cases n <;> simp [mentions] at hn)
    rw [← e]; exact .pb k off
  | _, _, .pr k idx sz off, hm => by
    have e : c'.σ k = c.σ k := (hm k).resolve_left (by rintro ⟨n, hn⟩; cases n <;> simp [mentions] at hn)
    rw [← e]; exact .pr k idx sz off
  | _, _, .bs k, hm => by
    have e : c'.σ k = c.σ k := (hm k).resolve_left (by rintro ⟨n, hn⟩; cases n <;> simp [mentions] at hn)
    rw [← e]; exact .bs k
  | _, _, .fn f cs cs' h, hm => .fn f cs cs' (VRs.later L h fun x hx k => by
      rcases hm k with ⟨n, hn⟩ | e
      · cases n with
        | zero => simp [mentions] at hn
        | succ n => simp only [mentions, List.any_eq_false] at hn; exact .inl ⟨n, by simpa using hn x hx⟩
      · exact .inr e)
  | _, _, .fz, _ => .fz
  | _, _, .mp k, hm => by
    have e : c'.σ k = c.σ k := (hm k).resolve_left (by rintro ⟨n, hn⟩; cases n <;> simp [mentions] at hn)
    rw [← e]; exact .mp k
  | _, _, .mz, _ => .mz
  | _, _, .it k, hm => by
    have e : c'.σ k = c.σ k := (hm k).resolve_left (by rintro ⟨n, hn⟩; cases n <;> simp [mentions] at hn)
    rw [← e]; exact .it k
  | _, _, .nif, _ => .nif
  | _, _, .yf q, hm => by
    have e : c'.σ q = c.σ q := (hm q).resolve_left (by rintro ⟨n, hn⟩; cases n <;> simp [mentions] at hn)
    rw [← e]; exact .yf q
theorem VRs.later {c c' : Cx} (L : Later c c') : ∀ {xs : List V} {xs' : List Value}, VRs c xs xs' → (∀ x, x ∈ xs → ∀ k, (∃ n, mentions k n x = false) ∨ c'.σ k = c.σ k) → VRs c' xs xs'
  | _, _, .nil, _ => .nil
  | _, _, .cons h hs, hm => .cons (VR.later L h (hm _ (by simp))) (VRs.later L hs fun x hx => hm x (by simp [hx]))
end
end Go.Ge
