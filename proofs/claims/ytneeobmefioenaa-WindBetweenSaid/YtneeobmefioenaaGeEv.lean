/- The evaluator: an intermediate code for Go functions, over pure values and blocks of the function's own; it computes what a call answers. Nothing here speaks of the model; Sound.. does. -/
import GoSem.Core.Program
import GoSem.Core.View
namespace Go.Ge
open Go

/-- Kinds of pure data. -/
inductive Ty where
  | bool | int (k : IntKind) | str | unit | prod (a b : Ty) | slice (t : Ty)
  deriving DecidableEq
@[reducible] def T : Ty → Type
  | .bool => Bool | .int _ => Int | .str => ByteArray | .unit => Unit | .prod a b => T a × T b | .slice t => List (T t)

/-- Values: scalars, slices whose cells nobody writes ('sl': bor: only lent; ex: the capacity is the length), pointers to cells that nobody writes ('pc'),
    pointers to and slices of blocks of one's own ('pb', 'pr', 'bs': a block is named after the variable that it was made for), a loop's yield ('yf': the loop's record is named q). -/
inductive V where
  | b (x : Bool) | i (k : IntKind) (n : Int) | s (x : ByteArray)
  | sl (t : Ty) (l : List (T t)) (bor ex : Bool)
  | agg (cs : List V) | tup (vs : List V)
  | pc (cs : List V) (off : Nat) (bor : Bool)
  | pz
  | pb (k off : Nat) | pr (k idx sz off : Nat) | bs (k : Nat)
  | fn (f : Nat) (cs : List V) | fz
  | mp (k : Nat) | mz | it (k : Nat)
  | nif
  | yf (q : Nat)

def V.cells : V → List V
  | .agg cs => cs
  | v => [v]
def vAgg : V → Bool
  | .agg _ => true
  | _ => false
def V.of (agg : Bool) (cs : List V) : Option V :=
  match agg with
  | true => some (.agg cs)
  | false => match cs with
    | [v] => some v
    | _ => none

def scal : V → Bool
  | .agg _ => false
  | .tup _ => false
  | _ => true
def tsize : Ty → Nat
  | .unit => 0
  | .prod a b => tsize a + tsize b
  | _ => 1
/-- No slice inside. -/
def flat : Ty → Bool
  | .prod a b => flat a && flat b
  | .slice _ => false
  | _ => true
def unpack (bor : Bool) : (t : Ty) → T t → List V
  | .bool, x => [.b x]
  | .int k, x => [.i k x]
  | .str, x => [.s x]
  | .unit, _ => []
  | .prod a b, x => unpack bor a x.1 ++ unpack bor b x.2
  | .slice t, x => [.sl t x bor false]
def castL {a b : Ty} (h : a = b) (l : List (T a)) : List (T b) := h ▸ l
def pack : (t : Ty) → List V → Option (T t × List V)
  | .bool, .b x :: r => some (x, r)
  | .int k, .i k' x :: r => if k = k' then some (x, r) else none
  | .str, .s x :: r => some (x, r)
  | .unit, r => some ((), r)
  | .prod a b, r => match pack a r with
    | some (x, r) => match pack b r with
      | some (y, r) => some ((x, y), r)
      | none => none
    | none => none
  | .slice t, .sl t' l _ _ :: r => if h : t' = t then some (castL h l, r) else none
  | _, _ => none
def packAll (t : Ty) (cs : List V) : Option (T t) :=
  match pack t cs with
  | some (x, []) => some x
  | _ => none
def eqT : (t : Ty) → T t → T t → Bool
  | .bool, x, y => x == y
  | .int _, x, y => x == y
  | .str, x, y => x.toList == y.toList
  | .unit, _, _ => true
  | .prod a b, x, y => eqT a x.1 y.1 && eqT b x.2 y.2
  | .slice _, _, _ => false

inductive Opd where
  | t (n : Nat) | c (v : V) | f (n : Nat)

inductive I where
  | mv (x : Opd)
  | pick (c a b : Opd)
  | al (zs : List V)
  | bx (x : Opd)
  | bd (zs : List V) (parts : List (Nat × Nat × Opd))
  | bsl (t : Ty) (own : Bool) (parts : List Opd)
  | ld (n : Nat) (agg : Bool) (p : Opd)
  | st (n : Nat) (p x : Opd) | sta (n : Nat) (p x : Opd) (av : List Opd)
  | bin (op : BinOp) (ag : Bool) (ls : List Nat) (x y : Opd)
  | un (op : UnOp) (x : Opd)
  | cv (k : IntKind) (x : Opd)
  | mf (f : Nat) (caps : List Opd)
  | fa (off : Nat) (p : Opd)
  | fd (off n : Nat) (agg : Bool) (x : Opd)
  | ixs (sz : Nat) (x i : Opd)
  | ixp (n sz : Nat) (p i : Opd)
  | ixv (n sz : Nat) (agg : Bool) (x i : Opd)
  | slc (sz : Nat) (x : Opd) (lo hi mx : Option Opd)
  | sla (t : Ty) (n : Nat) (p : Opd)
  | s2a (n : Nat) (x : Opd)
  | ex (x : Opd) (k : Nat)
  | call (f : Opd) (args : List Opd)
  | mcall (f : Opd) (args : List Opd)
  | srt (f : Nat) (x c : Opd)
  | len (str : Bool) (x : Opd) | mx (l : List Opd) | mn (l : List Opd)
  | app (t : Ty) (bd : Nat) (x y : Opd)
  | mkm (ka va : Bool) (kt vt : Ty) | mpu (ag : Bool) (ls : List Nat) (m k v : Opd)
  | rng (m : Opd) | nxt (i : Opd) | ent (i : Opd)
  | nck (x : Opd)
  | inil (neq : Bool) (x : Opd)
  | grow (f : Nat) (t : Ty) (n : Opd)
  | nope

structure II where
  dst : Option Nat
  i : I
  g : Option (Nat × Bool)
  fr : List Nat

inductive IC where
  | skip
  | reg (is : List II) (live drop : List Nat)
  | dreg (is : List II) (ord : List (List Nat)) (live drop : List Nat)
  | seq (a b : IC)
  | cond (c : Opd) (a b : IC)
  | block (id : Nat) (c : IC)
  | loop (c : IC)
  | rf (f : Opd) (ps : List Nat) (asg body : IC)
  | exit (id : Nat)
  | ret

inductive Res where
  | t (n : Nat) | c (n sz : Nat) (agg : Bool)
structure IF where
  body : IC
  np : Nat
  res : List Res

/-- A program's functions, by their numbers. -/
inductive Tr where
  | leaf
  | node (k : Nat) (F : IF) (l r : Tr)
def Tr.get : Tr → Nat → Option IF
  | .leaf, _ => none
  | .node k F l r, f => bif Nat.beq f k then some F else bif Nat.ble f k then l.get f else r.get f
def Tr.all (p : Nat → IF → Bool) : Tr → Bool
  | .leaf => true
  | .node k F l r => p k F && l.all p && r.all p
theorem Tr.get_all {p : Nat → IF → Bool} : ∀ {t : Tr} {f : Nat} {F : IF}, t.all p = true → t.get f = some F → p f F = true
  | .leaf, f, F, _, h => by simp [Tr.get] at h
  | .node k G l r, f, F, ha, h => by
    simp only [Tr.all, Bool.and_eq_true] at ha
    simp only [Tr.get, cond_eq_ite, Nat.beq_eq] at h
    split at h
    · rename_i e
      subst e
      simp only [Option.some.injEq] at h
      subst h
      exact ha.1.1
    · split at h
      · exact Tr.get_all ha.1.2 h
      · exact Tr.get_all ha.2 h
/-- How the record of a range over a function stands. -/
inductive LS where
  | ready | busy | ret | exit (id : Nat)
inductive Blk where
  | cells (cs : List V)
  | row (t : Ty) (l : List (T t))
  | buf (t : Ty)
  | map (ka va : Bool) (kt vt : Ty) (l : List (T kt × T vt)) (locked : Bool)
  | itr (m : Nat) (ka va : Bool) (kt vt : Ty) (l : List (T kt × T vt)) (cur : Option (T kt × T vt))
  | stk (e : List (Nat × V))
  | lp (st : LS) (e : List (Nat × V))

abbrev Env := List (Nat × V)
abbrev Mem := List (Nat × Blk)
def lk {α : Type} (t : Nat) : List (Nat × α) → Option α
  | [] => none
  | (u, v) :: r => bif Nat.beq t u then some v else lk t r
def put {α : Type} (t : Nat) (v : α) : List (Nat × α) → List (Nat × α)
  | [] => [(t, v)]
  | (u, w) :: r => bif Nat.beq t u then (t, v) :: r else (u, w) :: put t v r
def del {α : Type} (t : Nat) : List (Nat × α) → List (Nat × α)
  | [] => []
  | (u, w) :: r => bif Nat.beq t u then del t r else (u, w) :: del t r
def drp {α : Type} (ks : List Nat) (l : List (Nat × α)) : List (Nat × α) :=
  match ks with
  | [] => l
  | k :: r => drp r (del k l)
def sel {α : Type} (ts : List Nat) (e : List (Nat × α)) : List (Nat × α) :=
  match ts with
  | [] => []
  | t :: r => match lk t e with
    | some v => (t, v) :: sel r e
    | none => sel r e

def ev (E : Nat → Option V) : Opd → Option V
  | .t n => E n
  | .c v => some v
  | .f n => some (.fn n [])
def mapO {α β : Type} (f : α → Option β) : List α → Option (List β)
  | [] => some []
  | x :: r => match f x with
    | some y => match mapO f r with
      | some ys => some (y :: ys)
      | none => none
    | none => none
def evs (E : Nat → Option V) (l : List Opd) : Option (List V) := mapO (ev E) l

def partV (E : Nat → Option V) (p : Nat × Nat × Opd) : Option (Nat × Nat × V) :=
  match ev E p.2.2 with
  | some v => some (p.1, p.2.1, v)
  | none => none
/-- Lent, or holds what is lent. -/
def borV : Nat → V → Bool
  | 0, _ => true
  | n + 1, v => match v with
    | .sl _ _ b _ => b
    | .pc _ _ b => b
    | .fn _ cs => cs.any (borV n)
    | .agg cs => cs.any (borV n)
    | .tup cs => cs.any (borV n)
    | _ => false
/-- A value as it is handed on: blocks of one's own as what they hold; bor: it is lent (a call's arguments), else nothing lent may be among it (a result). -/
def snap (bor : Bool) (M : Nat → Option Blk) : Nat → V → Option V
  | 0, _ => none
  | n + 1, v => match v with
    | .b x => some (.b x)
    | .i k x => some (.i k x)
    | .s x => some (.s x)
    | .sl t l b e => bif b && !bor then none else some (.sl t l b e)
    | .pc cs off b => bif b && !bor then none else match mapO (snap bor M n) cs with
      | some cs => some (.pc cs off (b || bor))
      | none => none
    | .pb k off => match M k with
      | some (.cells cs) => match mapO (snap bor M n) cs with
        | some cs => some (.pc cs off bor)
        | none => none
      | _ => none
    | .bs k => match M k with
      | some (.row t l) => some (.sl t l bor false)
      | _ => none
    | .fn f cs => match mapO (snap bor M n) cs with
      | some cs => some (.fn f cs)
      | none => none
    | .agg cs => match mapO (snap bor M n) cs with
      | some cs => some (.agg cs)
      | none => none
    | .tup cs => match mapO (snap bor M n) cs with
      | some cs => some (.tup cs)
      | none => none
    | .pz => some .pz
    | .fz => some .fz
    | .mz => some .mz
    | .nif => some .nif
    | .pr _ _ _ _ => none
    | .mp _ => none
    | .it _ => none
    | .yf _ => none

def mentions (k : Nat) : Nat → V → Bool
  | 0, _ => true
  | n + 1, v => match v with
    | .pb k' _ => Nat.beq k k'
    | .pr k' _ _ _ => Nat.beq k k'
    | .bs k' => Nat.beq k k'
    | .mp k' => Nat.beq k k'
    | .it k' => Nat.beq k k'
    | .yf k' => Nat.beq k k'
    | .fn _ cs => cs.any (mentions k n)
    | .agg cs => cs.any (mentions k n)
    | .tup cs => cs.any (mentions k n)
    | .pc cs _ _ => cs.any (mentions k n)
    | _ => false
def menB (k : Nat) : Blk → Bool
  | .cells cs => cs.any (mentions k 5)
  | .itr m _ _ _ _ _ _ => Nat.beq k m
  | .stk e => e.any fun p => mentions k 5 p.2
  | .lp _ e => e.any fun p => mentions k 5 p.2
  | _ => false
/-- Nothing known speaks of block k (it may be made anew). -/
def free (k : Nat) (env : Env) (mem : Mem) : Bool :=
  env.all (fun p => !mentions k 5 p.2) && mem.all (fun p => Nat.beq k p.1 || !menB k p.2)

/-- Block k, written no more: each slice of it, each pointer into it is what it holds. -/
def frzV (k : Nat) (blk : Blk) : Nat → V → Option V
  | 0, _ => none
  | n + 1, v => match v with
    | .bs k' => bif Nat.beq k k' then (match blk with | .row t l => some (.sl t l false false) | _ => none) else some (.bs k')
    | .pb k' off => bif Nat.beq k k' then (match blk with | .cells cs => some (.pc cs off (cs.any (borV 5))) | _ => none) else some (.pb k' off)
    | .pr k' i s o => bif Nat.beq k k' then none else some (.pr k' i s o)
    | .mp k' => bif Nat.beq k k' then none else some (.mp k')
    | .it k' => bif Nat.beq k k' then none else some (.it k')
    | .yf k' => bif Nat.beq k k' then none else some (.yf k')
    | .fn f cs => match mapO (frzV k blk n) cs with | some cs => some (.fn f cs) | none => none
    | .agg cs => match mapO (frzV k blk n) cs with | some cs => some (.agg cs) | none => none
    | .tup cs => match mapO (frzV k blk n) cs with | some cs => some (.tup cs) | none => none
    | .pc cs o b => match mapO (frzV k blk n) cs with | some cs => some (.pc cs o b) | none => none
    | v => some v
def frzE (k : Nat) (blk : Blk) (p : Nat × V) : Option (Nat × V) :=
  match frzV k blk 5 p.2 with
  | some v => some (p.1, v)
  | none => none
def frzB (k : Nat) (blk : Blk) : Blk → Option Blk
  | .cells cs => match mapO (frzV k blk 5) cs with | some cs => some (.cells cs) | none => none
  | .itr m ka va kt vt l c => bif Nat.beq k m then none else some (.itr m ka va kt vt l c)
  | .stk e => match mapO (frzE k blk) e with | some e => some (.stk e) | none => none
  | .lp st e => match mapO (frzE k blk) e with | some e => some (.lp st e) | none => none
  | b => some b
def frzM (k : Nat) (blk : Blk) (p : Nat × Blk) : Option (Nat × Blk) :=
  match frzB k blk p.2 with
  | some v => some (p.1, v)
  | none => none
def frz (k : Nat) (env : Env) (mem : Mem) : Option (Env × Mem) :=
  match lk k mem with
  | some blk => match mapO (frzE k blk) env with
    | some env => match mapO (frzM k blk) (del k mem) with
      | some mem => some (env, mem)
      | none => none
    | none => none
  | none => some (env, mem)
def frzs : List Nat → Env → Mem → Option (Env × Mem)
  | [], env, mem => some (env, mem)
  | k :: r, env, mem => match frz k env mem with
    | some (env, mem) => frzs r env mem
    | none => none

/-- n cells from off on. -/
def takeN : Nat → List V → Option (List V)
  | 0, _ => some []
  | n + 1, c :: r => match takeN n r with
    | some l => some (c :: l)
    | none => none
  | _ + 1, [] => none
def cutN (n : Nat) : Nat → List V → Option (List V)
  | 0, l => takeN n l
  | off + 1, _ :: r => cutN n off r
  | _ + 1, [] => none
/-- The cells cs, written over ds from its begin. -/
def over : List V → List V → Option (List V)
  | [], ds => some ds
  | c :: cs, _ :: ds => match over cs ds with
    | some l => some (c :: l)
    | none => none
  | _ :: _, [] => none
def fillN (cs : List V) : Nat → List V → Option (List V)
  | 0, ds => over cs ds
  | off + 1, d :: ds => match fillN cs off ds with
    | some l => some (d :: l)
    | none => none
  | _ + 1, [] => none
def fills : List (Nat × Nat × V) → List V → Option (List V)
  | [], zs => some zs
  | (off, sz, v) :: r, zs => bif Nat.beq v.cells.length sz then match fillN v.cells off zs with
    | some zs => fills r zs
    | none => none
    else none
def kind1 : V → Nat
  | .b _ => 0
  | .i _ _ => 1
  | .s _ => 2
  | _ => 3
def kinds : List Nat → List V → Bool
  | [], [] => true
  | l :: ls, c :: cs => Nat.beq l (kind1 c) && kinds ls cs
  | _, _ => false
def eqC : V → V → Option Bool
  | .b x, .b y => some (x == y)
  | .i k x, .i k' y => if k = k' then some (x == y) else none
  | .s x, .s y => some (x.toList == y.toList)
  | _, _ => none
def eqCs : List V → List V → Option Bool
  | [], [] => some true
  | x :: r, y :: s => match eqC x y with
    | some a => match eqCs r s with
      | some b => some (a && b)
      | none => none
    | none => none
  | _, _ => none
def chunk (t : Ty) : Nat → List V → Option (List (T t))
  | 0, [] => some []
  | 0, _ :: _ => none
  | n + 1, l => match pack t l with
    | some (x, r) => match chunk t n r with
      | some xs => some (x :: xs)
      | none => none
    | none => none
def insK (kt vt : Ty) (k : T kt) (v : T vt) : List (T kt × T vt) → List (T kt × T vt)
  | [] => [(k, v)]
  | p :: r => bif eqT kt k p.1 then (k, v) :: r else p :: insK kt vt k v r
def mxI (a b : Int) : Int := if b > a then b else a
def mnI (a b : Int) : Int := if b < a then b else a
def ints : List V → Option (List Int)
  | [] => some []
  | .i _ n :: r => match ints r with
    | some l => some (n :: l)
    | none => none
  | _ => none
def intO (E : Nat → Option V) (o : Option Opd) (d : Int) : Option Int :=
  match o with
  | none => some d
  | some o => match ev E o with
    | some (.i _ n) => some n
    | _ => none

/-- What an instruction does beside its value: a row given up, a block changed, a new block (named after the instruction's own variable). -/
structure Eff where
  cut : Option Nat := none
  set : Option (Nat × Blk) := none
  new : Option Blk := none

/-- What a call of yield leads to: the loop's record, the arguments, how many frames and loops stand, the blocks, what is behind it. -/
abbrev Yt (R : Type) := Nat → List V → Nat → Mem → (V → Mem → Option R) → Option R
structure Hk (R : Type) where
  C : Nat → List V → (V → Option R) → Option R
  S : Nat → (t : Ty) → List (T t) → Nat → (List (T t) → Option R) → Option R
  J : List (Option R) → Option R
  N : Nat
  G : Nat → Ty → Nat → Bool := fun _ _ _ => false
  Z : Nat → Bool := fun _ => false
  M : Yt R → Nat → List V → Nat → Mem → (V → Mem → Option R) → Option R := fun _ _ _ _ _ _ => none

section
variable {R : Type}

/-- ls: what the cells of an operand are (compared: 'eqC'). -/
def binK (op : BinOp) (ag : Bool) (ls : List Nat) (x y : V) (k : V → Option R) : Option R :=
  match x, y with
  | .i kd a, .i kd' b =>
    match op with
    | .shl => bif decide (b < 0) then none else k (.i kd (kd.wrap (a * 2 ^ (min b.toNat kd.bits))))
    | .shr => bif decide (b < 0) then none else k (.i kd (a.fdiv (2 ^ (min b.toNat kd.bits))))
    | op => if kd = kd' then (match op with
    | .add => k (.i kd (kd.wrap (a + b)))
    | .sub => k (.i kd (kd.wrap (a - b)))
    | .mul => k (.i kd (kd.wrap (a * b)))
    | .lss => k (.b (decide (a < b)))
    | .leq => k (.b (decide (a ≤ b)))
    | .gtr => k (.b (decide (a > b)))
    | .geq => k (.b (decide (a ≥ b)))
    | .eql => k (.b (a == b))
    | .neq => k (.b (a != b))
    | .quo => bif b == 0 then none else k (.i kd (kd.wrap (a.tdiv b)))
    | .rem => bif b == 0 then none else k (.i kd (a.tmod b))
    | .and => k (.i kd (kd.wrap (BitVec.ofInt kd.bits a &&& BitVec.ofInt kd.bits b).toNat))
    | .or => k (.i kd (kd.wrap (BitVec.ofInt kd.bits a ||| BitVec.ofInt kd.bits b).toNat))
    | .xor => k (.i kd (kd.wrap (BitVec.ofInt kd.bits a ^^^ BitVec.ofInt kd.bits b).toNat))
    | _ => none) else none
  | .s a, .s b =>
    match op with
    | .eql => k (.b (a.toList == b.toList))
    | .neq => k (.b (!(a.toList == b.toList)))
    | .add => bif decide (a.size + b.size < 1152921504606846976) then k (.s (a ++ b)) else none
    | _ => none
  | .b a, .b b => bif !ag && kinds ls [.b a] then
    match op with
    | .eql => k (.b (a == b))
    | .neq => k (.b (!(a == b)))
    | _ => none
    else none
  | .agg a, .agg b => bif ag && kinds ls a then
    match op with
    | .eql => match eqCs a b with | some e => k (.b e) | none => none
    | .neq => match eqCs a b with | some e => k (.b (!e)) | none => none
    | _ => none
    else none
  | _, _ => none
def ldK (M : Nat → Option Blk) (p : V) (n : Nat) (agg : Bool) (k : V → Option R) : Option R :=
  match p with
  | .pb b off => match M b with
    | some (.cells ds) => match cutN n off ds with
      | some cs => match V.of agg cs with | some v => k v | none => none
      | none => none
    | _ => none
  | .pr b idx sz off => match M b with
    | some (.row t l) => match l[idx]? with
      | some x => bif Nat.beq sz (tsize t) then match cutN n off (unpack false t x) with
        | some cs => match V.of agg cs with | some v => k v | none => none
        | none => none
        else none
      | none => none
    | _ => none
  | .pc ds off _ => match cutN n off ds with
    | some cs => match V.of agg cs with | some v => k v | none => none
    | none => none
  | _ => none
def stK (M : Nat → Option Blk) (p : V) (n : Nat) (cs : List V) (k : Nat → Blk → Option R) : Option R :=
  bif Nat.beq cs.length n && cs.all scal then
    match p with
    | .pb b off => match M b with
      | some (.cells ds) => match fillN cs off ds with
        | some ds => k b (.cells ds)
        | none => none
      | _ => none
    | .pr b idx sz off => match M b with
      | some (.row t l) => match l[idx]? with
        | some x => bif Nat.beq sz (tsize t) && !cs.any (borV 5) then match fillN cs off (unpack false t x) with
          | some ds => match packAll t ds with
            | some y => k b (.row t (l.set idx y))
            | none => none
          | none => none
          else none
        | none => none
      | _ => none
    | _ => none
  else none
/-- A pointer to a block of one's own, and one that leads elsewhere. -/
def keyV : V → Option Nat
  | .pb k _ => some k
  | .pr k _ _ _ => some k
  | _ => none
def apartK (p q : V) : Bool :=
  match keyV p with
  | none => false
  | some a => match keyV q with
    | some b => !Nat.beq a b
    | none => match q with
      | .pc _ _ _ => true
      | _ => false
/-- The elements of a slice. -/
def rowK (M : Nat → Option Blk) (x : V) (k : (t : Ty) → List (T t) → Bool → Option R) : Option R :=
  match x with
  | .sl t l b _ => k t l b
  | .bs b => match M b with
    | some (.row t l) => k t l false
    | _ => none
  | _ => none

def evI (H : Hk R) (i : I) (dst : Nat) (E : Nat → Option V) (M : Nat → Option Blk) (k : V → Eff → Option R) : Option R :=
  match i with
  | .mv x => match ev E x with | some v => k v {} | none => none
  | .pick c a b => match ev E c with
    | some (.b c) => bif c then (match ev E a with | some v => k v {} | none => none) else (match ev E b with | some v => k v {} | none => none)
    | _ => none
  | .al zs => k (.pb dst 0) { new := some (.cells zs) }
  | .bx x => match ev E x with
    | some v => bif v.cells.all scal then k (.pb dst 0) { new := some (.cells v.cells) } else none
    | none => none
  | .bd zs parts => match mapO (partV E) parts with
    | some vs => match fills vs zs with
      | some cs => bif cs.all scal then k (.agg cs) {} else none
      | none => none
    | none => none
  | .bsl t own parts => match evs E parts with
    | some vs => match mapO (fun v => packAll t v.cells) vs with
      | some xs => bif own then (bif vs.any (borV 5) then none else k (.bs dst) { new := some (.row t xs) }) else k (.sl t xs (vs.any (borV 5)) true) {}
      | none => none
    | none => none
  | .ld n agg p => match ev E p with
    | some p => ldK M p n agg fun v => k v {}
    | none => none
  | .st n p x => match ev E p with
    | some p => match ev E x with
      | some x => stK M p n x.cells fun b blk => k (.tup []) { set := some (b, blk) }
      | none => none
    | none => none
  | .sta n p x av => match ev E p with
    | some p => match ev E x with
      | some x => match evs E av with
        | some qs => bif qs.all (apartK p) then stK M p n x.cells fun b blk => k (.tup []) { set := some (b, blk) } else none
        | none => none
      | none => none
    | none => none
  | .bin op ag ls x y => match ev E x with
    | some x => match ev E y with
      | some y => binK op ag ls x y fun v => k v {}
      | none => none
    | none => none
  | .un op x => match ev E x with
    | some (.b x) => match op with
      | .not => k (.b (!x)) {}
      | _ => none
    | some (.i kd x) => match op with
      | .neg => k (.i kd (kd.wrap (0 - x))) {}
      | _ => none
    | _ => none
  | .cv kd x => match ev E x with
    | some (.i _ n) => k (.i kd (kd.wrap n)) {}
    | _ => none
  | .mf f caps => match evs E caps with
    | some vs => k (.fn f vs) {}
    | none => none
  | .fa off p => match ev E p with
    | some (.pb b o) => k (.pb b (o + off)) {}
    | some (.pr b i s o) => k (.pr b i s (o + off)) {}
    | some (.pc cs o b) => k (.pc cs (o + off) b) {}
    | _ => none
  | .fd off n agg x => match ev E x with
    | some (.agg cs) => match cutN n off cs with
      | some cs => match V.of agg cs with | some v => k v {} | none => none
      | none => none
    | _ => none
  | .ixs sz x i => match ev E i with
    | some (.i _ i) => match ev E x with
      | some (.sl t l b _) => bif Nat.beq (tsize t) sz then (bif decide (0 ≤ i) then (match l[i.toNat]? with | some x => k (.pc (unpack b t x) 0 b) {} | none => none) else none) else none
      | some (.bs b) => match M b with
        | some (.row t l) => bif Nat.beq (tsize t) sz && decide (0 ≤ i) && decide (i.toNat < l.length) then k (.pr b i.toNat (tsize t) 0) {} else none
        | _ => none
      | _ => none
    | _ => none
  | .ixp n sz p i => match ev E i with
    | some (.i _ i) => bif decide (0 ≤ i) && decide (i < n) then
        match ev E p with
        | some (.pb b o) => k (.pb b (o + i.toNat * sz)) {}
        | some (.pr b j s o) => k (.pr b j s (o + i.toNat * sz)) {}
        | some (.pc cs o b) => k (.pc cs (o + i.toNat * sz) b) {}
        | _ => none
      else none
    | _ => none
  | .ixv n sz agg x i => match ev E i with
    | some (.i _ i) => bif decide (0 ≤ i) && decide (i < n) then
        match ev E x with
        | some (.agg cs) => match cutN sz (i.toNat * sz) cs with
          | some cs => match V.of agg cs with | some v => k v {} | none => none
          | none => none
        | _ => none
      else none
    | _ => none
  | .slc sz x lo hi mx => match ev E x with
    | some (.sl t l b e) => match intO E lo 0 with
      | some a => match intO E hi l.length with
        | some h => bif Nat.beq (tsize t) sz && decide (0 ≤ a) && decide (a ≤ h) && decide (h ≤ l.length) then
            match mx with
            | none => k (.sl t ((l.take h.toNat).drop a.toNat) b (e && hi.isNone)) {}
            | some o => match ev E o with
              | some (.i _ m) => bif m == h then k (.sl t ((l.take h.toNat).drop a.toNat) b true) {} else none
              | _ => none
          else none
        | none => none
      | none => none
    | _ => none
  | .sla t n p => match ev E p with
    | some (.pc cs off b) => match cutN (n * tsize t) off cs with
      | some ds => match chunk t n ds with
        | some xs => k (.sl t xs (b || ds.any (borV 5)) true) {}
        | none => none
      | none => none
    | _ => none
  | .s2a n x => match ev E x with
    | some (.sl t l b _) => bif Nat.ble n l.length then k (.pc ((l.take n).flatMap (unpack b t)) 0 b) {} else none
    | _ => none
  | .ex x j => match ev E x with
    | some (.tup vs) => match vs[j]? with | some v => k v {} | none => none
    | _ => none
  | .call f args => match ev E f with
    | some (.fn f caps) => match evs E args with
      | some vs => match mapO (snap true M 5) (vs ++ caps) with
        | some vs => H.C f vs (fun v => k v {})
        | none => none
      | none => none
    | _ => none
  | .srt f x c => match ev E x with
    | some (.bs b) => match M b with
      | some (.row t l) => match ev E c with
        | some (.fn g []) => match l with
          | [] => bif H.Z f then k (.tup []) {} else none
          | y :: l => bif flat t then H.S f t (y :: l) g fun l => k (.tup []) { set := some (b, .row t l) } else none
        | _ => none
      | _ => none
    | some (.sl _ [] _ _) => match ev E c with
      | some _ => bif H.Z f then k (.tup []) {} else none
      | none => none
    | _ => none
  | .len str x => match str with
    | true => match ev E x with
      | some (.s b) => k (.i .i64 b.size) {}
      | _ => none
    | false => match ev E x with
      | some x => rowK M x fun _ l _ => k (.i .i64 l.length) {}
      | none => none
  | .mx l => match evs E l with
    | some (.i kd a :: r) => match ints r with
      | some r => k (.i kd (r.foldl mxI a)) {}
      | none => none
    | _ => none
  | .mn l => match evs E l with
    | some (.i kd a :: r) => match ints r with
      | some r => k (.i kd (r.foldl mnI a)) {}
      | none => none
    | _ => none
  | .app t bd x y => match ev E y with
    | some y => rowK M y fun t2 ys b2 => if h2 : t2 = t then bif b2 && !flat t then none else
        match ev E x with
        | some (.sl t1 l b1 true) => if h1 : t1 = t then
            bif Nat.ble (l.length + ys.length) bd && !(b1 && !flat t) then
              match l with
              | [] => k (.bs dst) { new := some (.row t (castL h2 ys)) }
              | x1 :: r1 => match ys with
                | [] => k (.sl t1 (x1 :: r1) b1 true) {}
                | y1 :: r2 => k (.bs dst) { new := some (.row t (castL h1 (x1 :: r1) ++ castL h2 (y1 :: r2))) }
            else none
          else none
        | some (.bs b) => match M b with
          | some (.row t1 l) => if h1 : t1 = t then
              bif Nat.ble (l.length + ys.length) bd then
                match ys with
                | [] => k (.bs b) {}
                | y1 :: r2 => k (.bs dst) { cut := some b, new := some (.row t (castL h1 l ++ castL h2 (y1 :: r2))) }
              else none
            else none
          | some (.buf t1) => bif decide (t1 = t) && Nat.ble ys.length bd then
              match ys with
              | [] => k (.bs b) {}
              | y1 :: r2 => k (.bs dst) { cut := some b, new := some (.row t (castL h2 (y1 :: r2))) }
            else none
          | _ => none
        | _ => none
      else none
    | none => none
  | .mkm ka va kt vt => k (.mp dst) { new := some (.map ka va kt vt [] false) }
  | .mpu ag ls m a v => match ev E m with
    | some (.mp b) => match M b with
      | some (.map ka va kt vt l false) => match ev E a with
        | some a => match ev E v with
          | some v => bif ka == ag && vAgg a == ka && vAgg v == va && a.cells.all (fun z => !borV 5 z) && v.cells.all (fun z => !borV 5 z) && flat kt && kinds ls a.cells && (vAgg a || scal a) && (vAgg v || scal v) then match packAll kt a.cells with
            | some a => match packAll vt v.cells with
              | some v => k (.tup []) { set := some (b, .map ka va kt vt (insK kt vt a v l) false) }
              | none => none
            | none => none
            else none
          | none => none
        | none => none
      | _ => none
    | _ => none
  | .rng m => match ev E m with
    | some (.mp b) => match M b with
      | some (.map ka va kt vt l _) => k (.it dst) { set := some (b, .map ka va kt vt l true), new := some (.itr b ka va kt vt l none) }
      | _ => none
    | _ => none
  | .nxt i => match ev E i with
    | some (.it b) => match M b with
      | some (.itr m ka va kt vt l _) => match l with
        | [] => k (.tup [.b false]) {}
        | l => H.J ((List.range l.length).map fun j => match l[j]? with
          | some p => match V.of ka (unpack false kt p.1) with
            | some a => match V.of va (unpack false vt p.2) with
              | some v => k (.tup [.b true, a, v]) { set := some (b, .itr m ka va kt vt (l.eraseIdx j) (some p)) }
              | none => none
            | none => none
          | none => none)
      | _ => none
    | _ => none
  | .ent i => match ev E i with
    | some (.it b) => match M b with
      | some (.itr _ ka va kt vt _ (some p)) => match V.of ka (unpack false kt p.1) with
        | some a => match V.of va (unpack false vt p.2) with
          | some v => k (.tup [a, v]) {}
          | none => none
        | none => none
      | _ => none
    | _ => none
  | .nck x => match ev E x with
    | some (.pb a b) => k (.pb a b) {}
    | some (.pr a b c d) => k (.pr a b c d) {}
    | some (.pc a b c) => k (.pc a b c) {}
    | _ => none
  | .inil neq x => match ev E x with
    | some x => rowK M x fun _ l _ => match l with
      | [] => H.J [k (.b true) {}, k (.b false) {}]
      | _ :: _ => k (.b neq) {}
    | none => none
  | .grow f t n => match ev E n with
    | some (.i .i64 (.ofNat n)) => bif H.G f t n then
        match n with
        | 0 => k (.bs dst) { new := some (.row t []) }
        | _ + 1 => k (.bs dst) { new := some (.buf t) }
      else none
    | _ => none
  | .mcall _ _ => none
  | .nope => none

def putO (d : Option Nat) (v : V) (env : Env) : Env :=
  match d with
  | some d => put d v env
  | none => env
/-- Without what speaks of block b. -/
def cutEnv (b : Nat) : Env → Env
  | [] => []
  | (t, v) :: r => bif mentions b 5 v then del t (cutEnv b r) else (t, v) :: cutEnv b r
def cutE (c : Option Nat) (env : Env) (mem : Mem) (k : Env → Mem → Option R) : Option R :=
  match c with
  | none => k env mem
  | some b => bif mem.all (fun p => !menB b p.2) then k (cutEnv b env) (del b mem) else none
def applyE (d : Option Nat) (v : V) (e : Eff) (env : Env) (mem : Mem) (k : Env → Mem → Option R) : Option R :=
  cutE e.cut env mem fun env mem =>
    match e.set with
    | none => match e.new with
      | none => k (putO d v env) mem
      | some blk => bif free (d.getD 0) env mem && d.isSome && !menB (d.getD 0) blk then k (putO d v env) (put (d.getD 0) blk mem) else none
    | some (b, blk1) => match e.new with
      | none => k (putO d v env) (put b blk1 mem)
      | some blk => bif free (d.getD 0) env mem && d.isSome && !menB (d.getD 0) blk && !menB (d.getD 0) blk1 && !Nat.beq b (d.getD 0) then k (putO d v env) (put (d.getD 0) blk (put b blk1 mem)) else none

def want (E : Nat → Option V) (g : Option (Nat × Bool)) (k : Bool → Option R) : Option R :=
  match g with
  | none => k true
  | some (t, w) => match E t with
    | some (.b x) => bif (bif w then x else !x) then k true else k false
    | some (.tup _) => k false
    | _ => none

/-- The names of frames and loops that stand. -/
def BIG : Nat := 1000000
def mcO : I → Option (Opd × List Opd)
  | .mcall f args => some (f, args)
  | _ => none
/-- Behind a call that shares the blocks. -/
def mcE (q : Nat) (k : V → Env → Mem → Option R) (v : V) (mem : Mem) : Option R :=
  match lk q mem with
  | some (.stk env) => k v env (del q mem)
  | _ => none
/-- A call that shares the blocks: the frame's variables are laid among them. -/
def mcK (H : Hk R) (Y : Yt R) (dp : Nat) (f : Opd) (args : List Opd) (env : Env) (mem : Mem) (k : V → Env → Mem → Option R) : Option R :=
  bif free (BIG + dp) env mem && (lk (BIG + dp) mem).isNone then
    match ev (fun t => lk t env) f with
    | some (.fn g caps) => match evs (fun t => lk t env) args with
      | some vs => H.M Y g (vs ++ caps) (dp + 1) (put (BIG + dp) (.stk env) mem) (mcE (BIG + dp) k)
      | none => none
    | some (.yf q) => match evs (fun t => lk t env) args with
      | some vs => Y q vs (dp + 1) (put (BIG + dp) (.stk env) mem) (mcE (BIG + dp) k)
      | none => none
    | _ => none
  else none
/-- The guard is known now. -/
def cmt (g : Option (Nat × Bool)) (w : Bool) (env : Env) : Env :=
  match g with
  | none => env
  | some (t, gw) => match lk t env with
    | some (.b _) => put t (.b (bif w then gw else !gw)) env
    | _ => env
def evIs (H : Hk R) (Y : Yt R) (dp : Nat) : List II → Env → Mem → (Env → Mem → Option R) → Option R
  | [], env, mem, k => k env mem
  | ii :: r, env, mem, k =>
    match frzs ii.fr env mem with
    | some (env, mem) => want (fun t => lk t env) ii.g fun w =>
        match w with
        | true => match mcO ii.i with
          | some p => mcK H Y dp p.1 p.2 (cmt ii.g true env) mem fun v env mem => evIs H Y dp r (putO ii.dst v env) mem k
          | none => evI H ii.i (ii.dst.getD 0) (fun t => lk t (cmt ii.g true env)) (fun b => lk b mem) fun v e => applyE ii.dst v e (cmt ii.g true env) mem fun env mem => evIs H Y dp r env mem k
        | false => evIs H Y dp r (putO ii.dst (.tup []) (cmt ii.g false env)) mem k
    | none => none

inductive Ex where
  | normal | exit (id : Nat) | ret

def loopK (body : Env → Mem → (Ex → Env → Mem → Option R) → Option R) : Nat → Env → Mem → (Ex → Env → Mem → Option R) → Option R
  | 0, _, _, _ => none
  | n + 1, env, mem, k => body env mem fun e env mem => match e with
    | .normal => loopK body n env mem k
    | .exit id => k (.exit id) env mem
    | .ret => k .ret env mem
/-- The variables that name new blocks. -/
def newsOf : List II → List Nat
  | [] => []
  | ii :: r => match ii.i, ii.dst with
    | .al _, some d => d :: newsOf r
    | .bx _, some d => d :: newsOf r
    | .bsl _ _ _, some d => d :: newsOf r
    | _, _ => newsOf r
def alsOf : List II → List Nat
  | [] => []
  | ii :: r => match ii.i, ii.dst with
    | .al _, some d => d :: alsOf r
    | _, _ => alsOf r
/-- What the region is about to write speaks of none of its new blocks. -/
def oldOk (is : List II) (env : Env) (mem : Mem) : Bool :=
  is.all (fun ii => match ii.dst with
    | some d => match lk d env with
      | some v => (newsOf is).all fun b => !mentions b 5 v
      | none => true
    | none => true) && (alsOf is).all fun b => (lk b mem).isNone

/-- The end of a round. -/
def rfE (q : Nat) (kk : V → Mem → Option R) (e : Ex) (mem : Mem) : Option R :=
  match lk q mem with
  | some (.lp .busy env) => match e with
    | .normal => kk (.b true) (put q (.lp .ready env) mem)
    | .ret => kk (.b false) (put q (.lp .ret env) mem)
    | .exit id => kk (.b false) (put q (.lp (.exit id) env) mem)
  | _ => none
/-- A call of the yield of the loop q: a round. -/
def rfY (q : Nat) (ps : List Nat) (asg body : Nat → Env → Mem → (Ex → Env → Mem → Option R) → Option R) (Y : Yt R) : Yt R := fun q' vs dp mem kk =>
  bif Nat.beq q' q then match lk q mem with
    | some (.lp .ready env) => bif Nat.beq ps.length vs.length then
        asg dp ((ps.zip vs).foldl (fun env p => put p.1 p.2 env) env) mem fun e env mem => match e with
          | .normal => match lk q mem with
            | some (.lp .ready env1) => body dp env (put q (.lp .busy env1) mem) fun e _ mem => rfE q kk e mem
            | _ => none
          | .exit _ => none
          | .ret => none
      else none
    | _ => none
  else Y q' vs dp mem kk
/-- Behind the loop. -/
def rfK (q : Nat) (k : Ex → Env → Mem → Option R) (mem : Mem) : Option R :=
  match lk q mem with
  | some (.lp st env) => match st with
    | .ready => k .normal env (del q mem)
    | .ret => k .ret env (del q mem)
    | .exit id => k (.exit id) env (del q mem)
    | .busy => none
  | _ => none

def evC (H : Hk R) (Y : Yt R) : IC → Nat → Env → Mem → (Ex → Env → Mem → Option R) → Option R
  | .skip, _, env, mem, k => k .normal env mem
  | .reg is live drop, dp, env, mem, k => evIs H Y dp is env mem fun env mem => k .normal (sel live env) (drp drop mem)
  | .dreg is _ live drop, dp, env, mem, k => bif oldOk is env mem then evIs H Y dp is env mem fun env mem => k .normal (sel live env) (drp drop mem) else none
  | .seq a b, dp, env, mem, k => evC H Y a dp env mem fun e env mem => match e with
    | .normal => evC H Y b dp env mem k
    | .exit id => k (.exit id) env mem
    | .ret => k .ret env mem
  | .cond c a b, dp, env, mem, k => match ev (fun t => lk t env) c with
    | some (.b c) => bif c then evC H Y a dp env mem k else evC H Y b dp env mem k
    | _ => none
  | .block id c, dp, env, mem, k => evC H Y c dp env mem fun e env mem => match e with
    | .normal => k .normal env mem
    | .exit id' => bif Nat.beq id' id then k .normal env mem else k (.exit id') env mem
    | .ret => k .ret env mem
  | .loop c, dp, env, mem, k => loopK (fun env mem k => evC H Y c dp env mem k) H.N env mem k
  | .rf f ps asg body, dp, env, mem, k => bif free (BIG + dp) env mem && (lk (BIG + dp) mem).isNone then
      match ev (fun t => lk t env) f with
      | some (.fn g caps) => H.M (rfY (BIG + dp) ps (fun dp env mem k => evC H Y asg dp env mem k) (fun dp env mem k => evC H Y body dp env mem k) Y) g (.yf (BIG + dp) :: caps) (dp + 1) (put (BIG + dp) (.lp .ready env) mem) fun _ mem => rfK (BIG + dp) k mem
      | _ => none
    else none
  | .exit id, _, env, mem, k => k (.exit id) env mem
  | .ret, _, env, mem, k => k .ret env mem

def resK (E : Nat → Option V) (M : Nat → Option Blk) : Res → Option V
  | .t n => E n
  | .c n sz agg => match E n with
    | some p => ldK M p sz agg some
    | none => none
def tupOf : List V → V
  | [v] => v
  | vs => .tup vs
def finish (f : IF) (env : Env) (mem : Mem) (k : V → Option R) : Option R :=
  match mapO (resK (fun t => lk t env) (fun b => lk b mem)) f.res with
  | some vs => match mapO (snap false (fun b => lk b mem) 4) vs with
    | some vs => k (tupOf vs)
    | none => none
  | none => none
def start (args : List V) : Env := (List.range args.length).zip args
/-- A function that has its blocks to itself: what it is handed is lent. -/
def evF (H : Hk R) (f : IF) (args : List V) (k : V → Option R) : Option R :=
  bif Nat.beq args.length f.np then
    evC H (fun _ _ _ _ _ => none) f.body 0 (start args) [] fun e env mem => match e with
      | .normal => finish f env mem k
      | .ret => finish f env mem k
      | .exit _ => none
  else none
/-- A function that shares its caller's blocks. -/
def finM (f : IF) (env : Env) (mem : Mem) (k : V → Mem → Option R) : Option R :=
  match mapO (resK (fun t => lk t env) (fun b => lk b mem)) f.res with
  | some vs => k (tupOf vs) mem
  | none => none
def evM (H : Hk R) (Y : Yt R) (f : IF) (args : List V) (dp : Nat) (mem : Mem) (k : V → Mem → Option R) : Option R :=
  bif Nat.beq args.length f.np then
    evC H Y f.body dp (start args) mem fun e env mem => match e with
      | .normal => finM f env mem k
      | .ret => finM f env mem k
      | .exit _ => none
  else none
/-! ### What is behind a code -/
def kSeq (b : Env → Mem → (Ex → Env → Mem → Option R) → Option R) (k : Ex → Env → Mem → Option R) : Ex → Env → Mem → Option R := fun e env mem => match e with
  | .normal => b env mem k
  | .exit id => k (.exit id) env mem
  | .ret => k .ret env mem
def kBlk (id : Nat) (k : Ex → Env → Mem → Option R) : Ex → Env → Mem → Option R := fun e env mem => match e with
  | .normal => k .normal env mem
  | .exit id' => bif Nat.beq id' id then k .normal env mem else k (.exit id') env mem
  | .ret => k .ret env mem
def kF (f : IF) (k : V → Option R) : Ex → Env → Mem → Option R := fun e env mem => match e with
  | .normal => finish f env mem k
  | .ret => finish f env mem k
  | .exit _ => none
/-- Without a yield. -/
def Y0 : Yt R := fun _ _ _ _ _ => none
end
end Go.Ge
