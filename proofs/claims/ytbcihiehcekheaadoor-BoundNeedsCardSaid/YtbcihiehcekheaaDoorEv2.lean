/-
  A value semantics for the program's code, part 2: the small code, and what it comes to.
  Conditions: none; this text holds definitions and lemmas of their own.
-/
import Derived.Test.YtbcihiehcekheaaDoorEv1
namespace Go.Evl
open Go

/-- Lists of pairs, looked up by a number. -/
def get {α : Type} : List (Nat × α) → Nat → Option α
  | [], _ => none
  | (k, v) :: r, j => bif k == j then some v else get r j
def put {α : Type} : List (Nat × α) → Nat → α → List (Nat × α)
  | [], j, x => [(j, x)]
  | (k, v) :: r, j, x => bif k == j then (k, x) :: r else (k, v) :: put r j x
def del {α : Type} : List (Nat × α) → Nat → List (Nat × α)
  | [], _ => []
  | (k, v) :: r, j => bif k == j then del r j else (k, v) :: del r j
def has : List Nat → Nat → Bool
  | [], _ => false
  | k :: r, j => bif k == j then true else has r j

/-- What a closure holds: a content, or a place in a box. -/
inductive Cp where
  | p (v : V)
  | mptr (id off : Nat)
  deriving Inhabited
def Cp.says (id : Nat) : Cp → Bool
  | .p _ => false
  | .mptr j _ => (j == id)
def saysC (id : Nat) : List Cp → Bool
  | [] => false
  | c :: r => c.says id || saysC id r

/-- What a slot or a cell of a box holds. 'own': a slice that may be appended to; 'mptr': a place in a box; 'mclo': a closure over boxes; 'yld': the yield function of a loop; 'row': the whole of a box, elements of a kind; 'msl': a slice of such a box, 'mel': a place in one of its elements. -/
inductive D where
  | junk
  | undef
  | p (v : V)
  | own (id ver : Nat) (t : Ty) (xs : List t.D)
  | mptr (id off : Nat)
  | mclo (f : FuncId) (cs : List Cp)
  | yld (lvl : Nat)
  | row (t : Ty) (xs : List t.D)
  | msl (id sz : Nat) (lo len : Int)
  | mel (id sz : Nat) (i : Int) (off : Nat)
instance : Inhabited D := ⟨.junk⟩

def Cp.toD : Cp → D
  | .p v => .p v
  | .mptr id off => .mptr id off
def D.toCp : D → Option Cp
  | .p v => some (.p v)
  | .own _ _ t xs => some (.p (.sl false t xs))
  | .mptr id off => some (.mptr id off)
  | _ => none
def toCps : List D → Option (List Cp)
  | [] => some []
  | d :: r => match d.toCp with
    | none => none
    | some c => match toCps r with
      | some cs => some (c :: cs)
      | none => none
def D.toV : D → Option V
  | .p v => some v
  | .own _ _ t xs => some (.sl false t xs)
  | _ => none
def D.kill (id : Nat) : D → D
  | .own j ver t xs => bif j == id then .p (.sl false t xs) else .own j ver t xs
  | .mptr j off => bif j == id then .junk else .mptr j off
  | .mclo f cs => bif saysC id cs then .junk else .mclo f cs
  | .msl j sz lo len => bif j == id then .junk else .msl j sz lo len
  | .mel j sz i off => bif j == id then .junk else .mel j sz i off
  | d => d
def D.killY (lvl : Nat) : D → D
  | .yld j => bif j == lvl then .junk else .yld j
  | d => d
def D.says (id : Nat) : D → Bool
  | .own j _ _ _ => (j == id)
  | .mptr j _ => (j == id)
  | .mclo _ cs => saysC id cs
  | .msl j _ _ _ => (j == id)
  | .mel j _ _ _ => (j == id)
  | _ => false
def D.cells : D → Option (List D)
  | .p (.tup _) => none
  | .p (.agg cs) => some (cs.map D.p)
  | .junk => none
  | .undef => none
  | .row _ _ => none
  | d => some [d]
def setRange {α : Type} (cs : List α) (off : Nat) (ds : List α) : List α := cs.take off ++ ds ++ cs.drop (off + ds.length)
/-- The content of a kind with these cells. -/
def Ty.ofCells (t : Ty) (cs : List V) : V :=
  match t with
  | .agg _ => .agg cs
  | _ => match cs with
    | v :: _ => v
    | [] => .lit 0
/-- The cells of a box that is a row. -/
def rowCs (t : Ty) (xs : List t.D) : List D := xs.flatMap fun x => (t.enc x).cells.map D.p
def expand : List D → List D
  | [.row t xs] => rowCs t xs
  | cs => cs
def isRow : List D → Bool
  | [.row _ _] => true
  | _ => false

inductive Ex where
  | normal
  | exit (id : Nat)
  | ret
  deriving Inhabited
/-- A loop over a function: between its rounds, in a round, or left by a jump. -/
inductive Ps where
  | ready
  | busy
  | done (e : Ex)
  deriving Inhabited

/-- What is reached by references: maps, by the number of each; each holds its entries in the order in which they came. -/
inductive Arena where
  | mp (tk tv : Ty) (xs : List (List (tk.D × tv.D × Unit)))
instance : Inhabited Arena := ⟨.mp .bool .bool []⟩
def Arena.size : Arena → Nat
  | .mp _ _ xs => xs.length
mutual
/-- A kind without references. -/
def Ty.nr : Ty → Bool
  | .ref _ => false
  | .sl t => t.nr
  | .agg ts => ts.nr
  | .tup ts => ts.nr
  | .ptr ts _ => ts.nr
  | .clo _ ts => ts.nr
  | _ => true
def Tys.nr : Tys → Bool
  | .nil => true
  | .cons t ts => t.nr && ts.nr
end
structure St where
  regs : List (Nat × D)
  stk : List (List (Nat × D))
  boxes : List (Nat × List D)
  rows : List (Nat × Nat)
  lps : List (Nat × Ps)
  ars : List (Nat × Arena) := []
  deriving Inhabited

/-- An operand. -/
inductive A where
  | t (n : Nat)
  | v (x : V)
  deriving Inhabited

def rdA (regs : List (Nat × D)) : A → D
  | .t n => (get regs n).getD .junk
  | .v x => .p x

/-- An operation. -/
inductive O where
  | mov (x : A)
  | pick (c a b : A)
  | bin (op : BinOp) (x y : A)
  | mm (mx : Bool) (x y : A)
  | eqb (neg : Bool) (x y : A)
  | eqa (neg : Bool) (n : Nat) (x y : A)
  | nott (x : A)
  | neg (x : A)
  | load (sz : Nat) (isAgg : Bool) (x : A)
  | fa (off : Nat) (x : A)
  | fld (off sz : Nat) (isAgg : Bool) (x : A)
  | ia (sz : Nat) (x i : A)
  | iaa (len sz : Nat) (x i : A)
  | idx (len sz : Nat) (isAgg : Bool) (x i : A)
  | sidx (x i : A)
  | ext (i : Nat) (x : A)
  | call (f : FuncId) (args : List A)
  | callv (g : A) (args : List A)
  | len (x : A)
  | slen (x : A)
  | bld (zero : List V) (parts : List (Nat × Nat × A))
  | blda (zero : List V) (sz : Nat) (parts : List (Nat × A))
  | asl (t : Ty) (n : Nat) (x : A)
  | bsl (t : Ty) (zero : V) (sz n : Nat) (parts : List (Nat × A))
  | mkf (f : FuncId) (caps : List A)
  | slc (sz : Nat) (x : A) (lo hi mx : Option A)
  | sstr (x : A) (lo hi : Option A)
  | conv (k : IntKind) (x : A)
  | nilck (x : A)
  | boxi (x : A)
  -- what turns the state
  | alloc (zero : List V)
  | boxm (x : A)
  | store (sz : Nat) (a x : A)
  | app (sz bytes : Nat) (s x : A)
  | frz (x : A)
  | cln (f : FuncId) (sz bytes : Nat) (x : A)
  | clr (zero : V) (x : A)
  | allb (zero : List V)
  | bcc (f : FuncId) (x : A)
  | apps (s x : A)
  | bstr (f : FuncId) (x : A)
  | mkm (a : Nat)
  | mset (tk tv : Ty) (x k v : A)
  | mget (tk tv : Ty) (zero : V) (ok : Bool) (x k : A)
  deriving Inhabited
/-- The functions of the program that are slices.Clone: the cells and bytes of their elements. -/
def cloneFn : FuncId → Option (Nat × Nat) := fun f => bif Nat.beq f 23 then some (5, 40) else none

def allV : List D → Option (List V)
  | [] => some []
  | d :: ds => match d.toV with
    | none => none
    | some v => match allV ds with
      | some vs => some (v :: vs)
      | none => none

def eqI (a b : Int) : Bool := a == b
mutual
/-- Are two keys the same? -/
def Ty.keq : (t : Ty) → t.D → t.D → Bool
  | .int _, a, b => eqI a b
  | .agg ts, a, b => ts.keq a b
  | _, _, _ => false
def Tys.keq : (ts : Tys) → ts.D → ts.D → Bool
  | .nil, _, _ => true
  | .cons t ts, a, b => t.keq a.1 b.1 && ts.keq a.2 b.2
end
def Ty.isInt : Ty → Bool
  | .int _ => true
  | _ => false
def Tys.ints : Tys → Bool
  | .nil => true
  | .cons t ts => t.isInt && ts.ints
/-- A kind of keys: whole numbers, or structs of them. -/
def Ty.keyable : Ty → Bool
  | .int _ => true
  | .agg ts => ts.ints
  | _ => false
/-- An entry is laid into a map. -/
def setEnt {α β : Type} (eq : α → α → Bool) (k : α) (v : β) : List (α × β × Unit) → List (α × β × Unit)
  | [] => [(k, v, ())]
  | e :: r => bif eq k e.1 then (k, v, ()) :: r else e :: setEnt eq k v r
def findEnt {α β : Type} (eq : α → α → Bool) (k : α) : List (α × β × Unit) → Option β
  | [] => none
  | e :: r => bif eq k e.1 then some e.2.1 else findEnt eq k r
/-- What is reckoned with numbers, lists and strings, under names of its own: so that a text may be followed while these stay closed. -/
structure Ar : Type 1 where
  ia : Int → Int → Int
  is : Int → Int → Int
  mslc : Int → Option Int → Option Int → Option (Int × Int)
  set : {α : Type} → List α → Int → α → List α
  clr : {α : Type} → List α → Int → Int → α → List α
  part : {α : Type} → List α → Int → Int → Option (List α)
  add : IntKind → Int → Int → Int
  sub : IntKind → Int → Int → Int
  mul : IntKind → Int → Int → Int
  quo : IntKind → Int → Int → Int
  rem : IntKind → Int → Int → Int
  conv : IntKind → Int → Int
  shl : IntKind → Int → Int → Int
  shr : IntKind → Int → Int → Int
  mn : Int → Int → Int
  mx : Int → Int → Int
  nz : Int → Bool
  nt : Bool → Bool
  an : Bool → Bool → Bool
  be : Bool → Bool → Bool
  eq : Int → Int → Bool
  lt : Int → Int → Bool
  le : Int → Int → Bool
  len : {α : Type} → List α → Int
  idx : {α : Type} → List α → Int → Option α
  app : {α : Type} → List α → List α → List α
  fits : {α : Type} → Nat → List α → List α → Bool
  slc : {α : Type} → List α → Option Int → Option Int → Option Int → Option (List α)
  slen : ByteArray → Int
  seq : ByteArray → ByteArray → Bool
  sfits : ByteArray → ByteArray → Bool
  sapp : ByteArray → ByteArray → ByteArray
  sidx : ByteArray → Int → Option Int
  sslc : ByteArray → Option Int → Option Int → Option ByteArray
  sby : ByteArray → List Int
  yb : List Int → ByteArray
  bys : List Int → Bool
  mhas : (t : Ty) → {β : Type} → List (t.D × β × Unit) → t.D → Bool
  mget : (t : Ty) → {β : Type} → List (t.D × β × Unit) → t.D → β → β
  mset : (t : Ty) → {β : Type} → List (t.D × β × Unit) → t.D → β → List (t.D × β × Unit)
def bound (d : Int) : Option Nat := if 0 ≤ d then some d.toNat else none
def boundOr (n : Nat) : Option Int → Option Nat
  | none => some n
  | some d => bound d
def sliceV {α : Type} (xs : List α) (lo hi mx : Option Int) : Option (List α) :=
  match boundOr 0 lo, boundOr xs.length hi, mx with
  | some l, some h, none => if l ≤ h ∧ h ≤ xs.length then some ((xs.take h).drop l) else none
  | some l, some h, some m => match bound m with
    | none => none
    | some m => if hi.isSome ∧ l ≤ h ∧ h = m ∧ m ≤ xs.length then some ((xs.take h).drop l) else none
  | _, _, _ => none
def strFits (a b : ByteArray) : Bool := Nat.ble (a.size + b.size) 9223372036854775807
def std : Ar := {
  ia x y := x + y
  is x y := x - y
  mslc n lo hi := if 0 ≤ lo.getD 0 ∧ lo.getD 0 ≤ hi.getD n ∧ hi.getD n ≤ n then some (lo.getD 0, hi.getD n) else none
  set xs i x := xs.set i.toNat x
  clr xs lo n x := xs.take lo.toNat ++ (List.replicate n.toNat x ++ xs.drop (lo.toNat + n.toNat))
  part xs lo n := if 0 ≤ lo ∧ 0 ≤ n ∧ lo + n ≤ xs.length then some ((xs.drop lo.toNat).take n.toNat) else none
  add k x y := k.wrap (x + y)
  sub k x y := k.wrap (x - y)
  mul k x y := k.wrap (x * y)
  quo k x y := k.wrap (x.tdiv y)
  rem _ x y := x.tmod y
  conv k x := k.wrap x
  shl k x y := k.wrap (x * 2 ^ (min y.toNat k.bits))
  shr k x y := x.fdiv (2 ^ (min y.toNat k.bits))
  mn x y := min x y
  mx x y := max x y
  nz y := y != 0
  nt b := !b
  an a b := a && b
  be a b := a == b
  eq x y := x == y
  lt x y := decide (x < y)
  le x y := decide (x ≤ y)
  len xs := xs.length
  idx xs n := if 0 ≤ n then xs[n.toNat]? else none
  app xs ys := xs ++ ys
  fits bytes xs ys := decide ((xs.length + ys.length) * bytes ≤ 140737488355328)
  slc := sliceV
  slen s := s.size
  seq a b := a.toList == b.toList
  sfits := strFits
  sapp a b := a ++ b
  sidx s n := if 0 ≤ n then (s[n.toNat]?).map fun b => (b.toNat : Int) else none
  sslc s lo hi := match boundOr 0 lo, boundOr s.size hi with
    | some l, some h => if l ≤ h ∧ h ≤ s.size then some (s.extract l h) else none
    | _, _ => none
  sby s := s.data.toList.map fun b => (b.toNat : Int)
  yb xs := ⟨(xs.map fun n => UInt8.ofNat n.toNat).toArray⟩
  bys xs := !xs.isEmpty && xs.all fun n => decide (0 ≤ n) && decide (n ≤ 255)
  mhas t := fun es k => (findEnt t.keq k es).isSome
  mget t := fun es k z => (findEnt t.keq k es).getD z
  mset t := fun es k v => setEnt t.keq k v es }
/-- Two whole numbers under an operator. -/
def binI (ar : Ar) (op : BinOp) (k : IntKind) (x y : Int) : Option V :=
  match op with
  | .add => some (.int k (ar.add k x y))
  | .sub => some (.int k (ar.sub k x y))
  | .mul => some (.int k (ar.mul k x y))
  | .quo => bif ar.nz y then some (.int k (ar.quo k x y)) else none
  | .rem => bif ar.nz y then some (.int k (ar.rem k x y)) else none
  | .eql => some (.bool (ar.eq x y))
  | .neq => some (.bool (ar.nt (ar.eq x y)))
  | .lss => some (.bool (ar.lt x y))
  | .leq => some (.bool (ar.le x y))
  | .gtr => some (.bool (ar.lt y x))
  | .geq => some (.bool (ar.le y x))
  | _ => none
/-- A shift. -/
def shiftI (ar : Ar) (op : BinOp) (k : IntKind) (x y : Int) : Option V :=
  match op with
  | .shl => bif ar.le 0 y then some (.int k (ar.shl k x y)) else none
  | .shr => bif ar.le 0 y then some (.int k (ar.shr k x y)) else none
  | _ => none
def isShift : BinOp → Bool
  | .shl => true
  | .shr => true
  | _ => false
def binV (ar : Ar) (op : BinOp) : V → V → Option V
  | .int k x, .int k' y => bif isShift op then shiftI ar op k x y else bif kindEq k k' then binI ar op k x y else none
  | .str a, .str b => match op with
    | .eql => some (.bool (ar.seq a b))
    | .neq => some (.bool (ar.nt (ar.seq a b)))
    | .add => bif ar.sfits a b then some (.str (ar.sapp a b)) else none
    | _ => none
  | _, _ => none
/-- Are the cells of two structs of whole numbers the same? -/
def eqCells (ar : Ar) : List V → List V → Option Bool
  | [], [] => some true
  | .int k x :: r, .int k' y :: s => bif kindEq k k' then (match eqCells ar r s with | some b => some (ar.an (ar.eq x y) b) | none => none) else none
  | _, _ => none
def partV (cs : List V) (off sz : Nat) (isAgg : Bool) : Option V :=
  bif isAgg then (bif ((cs.drop off).take sz).length == sz then some (.agg ((cs.drop off).take sz)) else none) else cs[off]?
def partD (cs : List D) (off sz : Nat) (isAgg : Bool) : Option D :=
  bif isAgg then (bif ((cs.drop off).take sz).length == sz then (match allV ((cs.drop off).take sz) with | some vs => some (.p (.agg vs)) | none => none) else none) else cs[off]?
def fillV (cells : List V) : List (Nat × Nat × V) → Option (List V)
  | [] => some cells
  | (off, sz, v) :: r =>
    match v with
    | .tup _ => none
    | v => bif (v.cells.length == sz) && Nat.ble (off + sz) cells.length then fillV (cells.take off ++ v.cells ++ cells.drop (off + sz)) r else none
def fillS (xs : List V) (sz : Nat) : List (Nat × V) → Option (List V)
  | [] => some xs
  | (i, v) :: r =>
    match v with
    | .tup _ => none
    | v => bif (v.cells.length == sz) && Nat.blt i xs.length then fillS (xs.set i v) sz r else none
def intD : D → Option Int
  | .p (.int _ n) => some n
  | _ => none
/-- Bounds that may be left out: none where one is no number. -/
def optI (rd : A → D) : Option A → Option (Option Int)
  | none => some none
  | some a => match intD (rd a) with
    | some n => some (some n)
    | none => none
def parts3 (rd : A → D) : List (Nat × Nat × A) → Option (List (Nat × Nat × V))
  | [] => some []
  | (o, s, a) :: r => match (rd a).toV with
    | none => none
    | some v => match parts3 rd r with
      | some ps => some ((o, s, v) :: ps)
      | none => none
def parts2 (rd : A → D) : List (Nat × A) → Option (List (Nat × V))
  | [] => some []
  | (i, a) :: r => match (rd a).toV with
    | none => none
    | some v => match parts2 rd r with
      | some ps => some ((i, v) :: ps)
      | none => none

def pv (o : Option V) : Option D :=
  match o with
  | some v => some (.p v)
  | none => none
/-- What an operation yields that turns nothing. -/
def ev0 (ar : Ar) (cf : FuncId → List V → Option V) (rd : A → D) (bx : Nat → Option (List D)) : O → Option D
  | .mov x => some (rd x)
  | .pick c a b => match rd c with
    | .p (.bool t) => some (bif t then rd a else rd b)
    | _ => none
  | .bin op x y => match rd x, rd y with
    | .p a, .p b => pv (binV ar op a b)
    | _, _ => none
  | .eqb neg x y => match rd x, rd y with
    | .p (.bool a), .p (.bool b) => some (.p (.bool (bif neg then ar.nt (ar.be a b) else ar.be a b)))
    | _, _ => none
  | .mm mx x y => match rd x, rd y with
    | .p (.int k a), .p (.int k' b) => bif kindEq k k' then some (.p (.int k (bif mx then ar.mx a b else ar.mn a b))) else none
    | _, _ => none
  | .eqa neg n x y => match rd x, rd y with
    | .p (.agg a), .p (.agg b) => bif (a.length == n) && (b.length == n) then (match eqCells ar a b with
      | some t => some (.p (.bool (bif neg then ar.nt t else t)))
      | none => none) else none
    | _, _ => none
  | .nott x => match rd x with
    | .p (.bool b) => some (.p (.bool (ar.nt b)))
    | _ => none
  | .neg x => match rd x with
    | .p (.int k n) => some (.p (.int k (ar.sub k 0 n)))
    | _ => none
  | .load sz isAgg x => match rd x with
    | .p (.ptr cs off) => pv (partV cs off sz isAgg)
    | .mptr id off => match bx id with
      | some cs => bif isRow cs then none else partD cs off sz isAgg
      | none => none
    | .mel id sz' i off => match bx id with
      | some [.row t xs] => bif (t.csz == sz') && (Nat.blt 0 sz' && Nat.ble (off + sz) sz') then (match ar.idx xs i with
        | some e => pv (partV (t.enc e).cells off sz isAgg)
        | none => none) else none
      | _ => none
    | _ => none
  | .fa off x => match rd x with
    | .p (.ptr cs o) => some (.p (.ptr cs (o + off)))
    | .mptr id o => some (.mptr id (o + off))
    | .mel id sz i o => some (.mel id sz i (o + off))
    | _ => none
  | .fld off sz isAgg x => match rd x with
    | .p (.agg cs) => pv (partV cs off sz isAgg)
    | _ => none
  | .ia sz x i => match rd i with
    | .p (.int _ n) => (match rd x with
      | .msl id sz' lo len => bif (sz == sz') && ar.an (ar.le 0 n) (ar.lt n len) then some (.mel id sz (ar.ia lo n) 0) else none
      | d => match d.toV with
        | some (.sl _ t xs) => bif t.csz == sz then (match ar.idx xs n with
          | some e => some (.p (.ptr (t.enc e).cells 0))
          | none => none) else none
        | _ => none)
    | _ => none
  | .iaa len sz x i => match rd x, rd i with
    | .p (.ptr cs o), .p (.int _ n) => bif (ar.le 0 n && ar.lt n len) then some (.p (.ptr cs (o + n.toNat * sz))) else none
    | .mptr id o, .p (.int _ n) => bif (ar.le 0 n && ar.lt n len) then some (.mptr id (o + n.toNat * sz)) else none
    | _, _ => none
  | .idx len sz isAgg x i => match rd x, rd i with
    | .p (.agg cs), .p (.int _ n) => bif (ar.le 0 n && ar.lt n len) then pv (partV cs (n.toNat * sz) sz isAgg) else none
    | _, _ => none
  | .sidx x i => match rd x, rd i with
    | .p (.str s), .p (.int _ n) => match ar.sidx s n with
      | some b => some (.p (.int .u8 b))
      | none => none
    | _, _ => none
  | .ext i x => match rd x with
    | .p (.tup vs) => pv vs[i]?
    | _ => none
  | .call f args => match allV (args.map rd) with
    | some vs => pv (cf f vs)
    | none => none
  | .callv g args => match rd g, allV (args.map rd) with
    | .p (.clo f caps), some vs => pv (cf f (vs ++ caps))
    | _, _ => none
  | .len x => match rd x with
    | .msl _ _ _ len => some (.p (.int .i64 len))
    | d => match d.toV with
      | some (.sl _ _ xs) => some (.p (.int .i64 (ar.len xs)))
      | _ => none
  | .slen x => match rd x with
    | .p (.str s) => some (.p (.int .i64 (ar.slen s)))
    | _ => none
  | .bld zero parts => match parts3 rd parts with
    | some ps => match fillV zero ps with
      | some cs => some (.p (.agg cs))
      | none => none
    | none => none
  | .blda zero sz parts => match parts2 rd parts with
    | some ps => match fillV zero (ps.map fun p => (p.1 * sz, sz, p.2)) with
      | some cs => some (.p (.agg cs))
      | none => none
    | none => none
  | .asl t n x => match rd x with
    | .p (.ptr cs 0) => bif cs.length == n then (match decL t cs with
      | some ds => some (.p (.sl true t ds))
      | none => none) else none
    | _ => none
  | .bsl t zero sz n parts => match parts2 rd parts with
    | some ps => match fillS (List.replicate n zero) sz ps with
      | some xs => match decL t xs with
        | some ds => some (.p (.sl true t ds))
        | none => none
      | none => none
    | none => none
  | .mkf f caps => match allV (caps.map rd) with
    | some vs => some (.p (.clo f vs))
    | none => none
  | .slc sz x lo hi mx => match optI rd lo, optI rd hi, optI rd mx with
    | some l, some h, some m => match rd x with
      | .p (.sl _ t xs) => bif t.csz == sz then (match ar.slc xs l h m with
        | some q => some (.p (.sl m.isSome t q))
        | none => none) else none
      | .own _ _ t xs => bif t.csz == sz then (match ar.slc xs l h m with
        | some q => some (.p (.sl m.isSome t q))
        | none => none) else none
      | .msl id sz' lo len => bif (sz == sz') && !m.isSome then (match ar.mslc len l h with
        | some q => some (.msl id sz (ar.ia lo q.1) (ar.is q.2 q.1))
        | none => none) else none
      | _ => none
    | _, _, _ => none
  | .sstr x lo hi => match optI rd lo, optI rd hi with
    | some l, some h => match rd x with
      | .p (.str s) => match ar.sslc s l h with
        | some t => some (.p (.str t))
        | none => none
      | _ => none
    | _, _ => none
  | .conv k x => match rd x with
    | .p (.int _ n) => some (.p (.int k (ar.conv k n)))
    | _ => none
  | .nilck x => match rd x with
    | .p (.ptr cs o) => some (.p (.ptr cs o))
    | .p (.clo f cs) => some (.p (.clo f cs))
    | .mptr id o => some (.mptr id o)
    | _ => none
  | .boxi x => match (rd x).toV with
    | some (.tup _) => none
    | some v => some (.p (.ptr v.cells 0))
    | none => none
  | _ => none

def mapV {α β : Type} (f : α → β) (l : List (Nat × α)) : List (Nat × β) := l.map fun x => (x.1, f x.2)

def St.kill (s : St) (id : Nat) : St :=
  { s with regs := mapV (D.kill id) s.regs, stk := s.stk.map (mapV (D.kill id)), boxes := del (mapV (List.map (D.kill id)) s.boxes) id, rows := del s.rows id }
def St.killY (s : St) (lvl : Nat) : St :=
  { s with regs := mapV (D.killY lvl) s.regs, stk := s.stk.map (mapV (D.killY lvl)), boxes := mapV (List.map (D.killY lvl)) s.boxes, lps := del s.lps lvl }


/-- The yield functions of the loops that are under way. -/
abbrev Env := Nat → List D → St → Option (D × St)
/-- What the rest of the program comes to: calls by content; calls that may turn the state. -/
structure Cx where
  ar : Ar
  cf : FuncId → List V → Option V
  run : Env → FuncId → List D → St → Option (D × St)
def pvs (o : Option V) (s : St) : Option (D × St) :=
  match o with
  | some v => some (.p v, s)
  | none => none
/-- A number for what is made at slot 'd'. -/
def St.num (s : St) (d : Nat) : Nat := 2 * (d + 10000 * s.stk.length)
/-- The type of the boxes with odd numbers (strings.Builder). -/
def bldTy : TypeId := 113
/-- The type of the elements of rows with odd numbers (uint8). -/
def byTy : TypeId := 5
def kOf (id : Nat) : Option TypeId := bif id % 2 == 1 then some byTy else none
/-- The functions of the program that are (*strings.Builder).copyCheck; (*strings.Builder).String. -/
def bccFn : FuncId → Bool := fun f => Nat.beq f 78
def bstrFn : FuncId → Bool := fun f => Nat.beq f 63

/-- What an operation yields, and the state behind it; 'd': its slot. -/
def ev1 (cx : Cx) (env : Env) (dst : Nat) (s : St) : O → Option (D × St)
  | .alloc zero => let d := s.num dst
      some (.mptr d 0, { s.kill d with boxes := put (s.kill d).boxes d (zero.map .p) })
  | .boxm x => let d := s.num dst
      match ((rdA s.regs x).kill d).cells with
      | some cs => some (.mptr d 0, { s.kill d with boxes := put (s.kill d).boxes d cs })
      | none => none
  | .store sz a x => match rdA s.regs a, (rdA s.regs x).cells with
    | .mptr id off, some ds => match get s.boxes id with
      | some cs => bif (!isRow cs && !isRow (setRange cs off ds)) && ((ds.length == sz) && Nat.ble (off + sz) cs.length) then some (.junk, { s with boxes := put s.boxes id (setRange cs off ds) }) else none
      | none => none
    | .mel id sz' i off, some ds => match get s.boxes id, allV ds with
      | some [.row t xs], some vs => bif ((t.csz == sz') && Nat.blt 0 sz') && ((ds.length == sz) && Nat.ble (off + sz) sz') then (match cx.ar.idx xs i with
        | some e => (match t.dec (t.ofCells (setRange (t.enc e).cells off vs)) with
          | some e' => some (.junk, { s with boxes := put s.boxes id [.row t (cx.ar.set xs i e')] })
          | none => none)
        | none => none) else none
      | _, _ => none
    | _, _ => none
  | .frz x => match rdA s.regs x with
    | .msl id sz lo len => match get s.boxes id with
      | some [.row t xs] => bif (t.csz == sz) && Nat.blt 0 sz then (match cx.ar.part xs lo len with
        | some ys => some (.p (.sl false t ys), s.kill id)
        | none => none) else none
      | _ => none
    | d => some (d, s)
  | .cln f sz bytes x => match cloneFn f, (rdA s.regs x).toV with
    | some (sz', bytes'), some (.sl _ t xs) => bif ((sz == sz') && (bytes == bytes')) && ((t.csz == sz) && cx.ar.fits bytes xs []) then
        some (.msl (s.num dst) sz 0 (cx.ar.len xs), { s.kill (s.num dst) with boxes := put (s.kill (s.num dst)).boxes (s.num dst) [.row t xs] }) else none
    | _, _ => none
  | .clr zero x => match rdA s.regs x with
    | .msl id sz lo len => match get s.boxes id with
      | some [.row t xs] => match t.dec zero with
        | some z => bif (t.csz == sz) && (cx.ar.an (cx.ar.le 0 lo) (cx.ar.le (cx.ar.ia lo len) (cx.ar.len xs))) then
          some (.p (.tup []), { s with boxes := put s.boxes id [.row t (cx.ar.clr xs lo len z)] }) else none
        | none => none
      | _ => none
    | _ => none
  | .allb zero => let d := s.num dst + 1
      some (.mptr d 0, { s.kill d with boxes := put (s.kill d).boxes d (zero.map .p) })
  | .bcc f x => match rdA s.regs x with
    | .mptr id 0 => (match get s.boxes id with
      | some [c0, c1] => bif bccFn f && (id % 2 == 1) then (match c0 with
        | .p (.lit 0) => some (.p (.tup []), { s with boxes := put s.boxes id [.mptr id 0, c1] })
        | .mptr id' 0 => bif id' == id then some (.p (.tup []), s) else none
        | _ => none) else none
      | _ => none)
    | _ => none
  | .apps sl x => match rdA s.regs x with
    | .p (.str b) => (match rdA s.regs sl with
      | .own id ver (.int .u8) xs => (match get s.rows id with
        | some v => bif (v == ver) && cx.ar.fits 1 xs (cx.ar.sby b) then
            some (.own id (ver + 1) (.int .u8) (cx.ar.app xs (cx.ar.sby b)), { s with rows := put s.rows id (ver + 1) }) else none
        | none => none)
      | _ => none)
    | _ => none
  | .bstr f x => match rdA s.regs x with
    | .mptr id 0 => (match get s.boxes id with
      | some [_, .own rid ver (.int .u8) xs] => (match get s.rows rid with
        | some v => bif ((bstrFn f && (id % 2 == 1)) && ((rid % 2 == 1) && (v == ver))) && (cx.ar.fits 1 xs [] && cx.ar.bys xs) then some (.p (.str (cx.ar.yb xs)), (s.kill id).kill rid) else none
        | none => none)
      | _ => none)
    | _ => none
  | .mkm a => match get s.ars a with
    | some (.mp tk tv xs) => some (.p (.ref (.mp a) (cx.ar.len xs) 0 0), { s with ars := put s.ars a (.mp tk tv (cx.ar.app xs [[]])) })
    | none => none
  | .mset tk tv x k v => match rdA s.regs x, (rdA s.regs k).toV, (rdA s.regs v).toV with
    | .p (.ref (.mp a) i _ _), some kv, some vv => (match get s.ars a with
      | some (.mp tk' tv' xs) => bif tk.keyable && (tk.same tk' && tv.same tv') then (match tk'.dec kv, tv'.dec vv with
        | some kd, some vd => (match cx.ar.idx xs i with
          | some es => some (.junk, { s with ars := put s.ars a (.mp tk' tv' (cx.ar.set xs i (cx.ar.mset tk' es kd vd))) })
          | none => none)
        | _, _ => none) else none
      | none => none)
    | _, _, _ => none
  | .mget tk tv zero ok x k => match rdA s.regs x, (rdA s.regs k).toV with
    | .p (.ref (.mp a) i _ _), some kv => (match get s.ars a with
      | some (.mp tk' tv' xs) => bif tk.keyable && (tk.same tk' && tv.same tv') then (match tk'.dec kv, tv'.dec zero with
        | some kd, some z => (match cx.ar.idx xs i with
          | some es => some (.p (bif ok then .tup [tv'.enc (cx.ar.mget tk' es kd z), .bool (cx.ar.mhas tk' es kd)] else tv'.enc (cx.ar.mget tk' es kd z)), s)
          | none => none)
        | _, _ => none) else none
      | none => none)
    | _, _ => none
  | .app sz bytes sl x => match (rdA s.regs x).toV with
    | some (.sl _ t' ys') => match rdA s.regs sl with
      | .p (.sl true t xs) => let d := s.num dst
          match castL t' t ys' with
          | some ys => bif (t.csz == sz) && cx.ar.fits bytes xs ys then
            some (.own d 0 t (cx.ar.app xs ys), { s.kill d with rows := put (s.kill d).rows d 0 }) else none
          | none => none
      | .own id ver t xs => match get s.rows id with
        | some v => match castL t' t ys' with
          | some ys => bif ((v == ver) && (id % 2 == 0)) && ((t.csz == sz) && cx.ar.fits bytes xs ys) then
            some (.own id (ver + 1) t (cx.ar.app xs ys), { s with rows := put s.rows id (ver + 1) }) else none
          | none => none
        | none => none
      | _ => none
    | _ => none
  | .call f args => match allV (args.map (rdA s.regs)) with
    | some vs => bif (tysL vs).nr then pvs (cx.cf f vs) s else cx.run env f (args.map (rdA s.regs)) s
    | none => cx.run env f (args.map (rdA s.regs)) s
  | .callv g args => match rdA s.regs g with
    | .p (.clo f caps) => (match allV (args.map (rdA s.regs)) with
      | some vs => bif (tysL (vs ++ caps)).nr then pvs (cx.cf f (vs ++ caps)) s else cx.run env f (args.map (rdA s.regs) ++ caps.map .p) s
      | none => cx.run env f (args.map (rdA s.regs) ++ caps.map .p) s)
    | .mclo f cs => cx.run env f (args.map (rdA s.regs) ++ cs.map Cp.toD) s
    | .yld lvl => env lvl (args.map (rdA s.regs)) s
    | _ => none
  | .mkf f args => match allV (args.map (rdA s.regs)) with
    | some vs => some (.p (.clo f vs), s)
    | none => match toCps (args.map (rdA s.regs)) with
      | some cs => some (.mclo f cs, s)
      | none => none
  | o => match ev0 cx.ar cx.cf (rdA s.regs) (get s.boxes) o with
    | some v => some (v, s)
    | none => none

/-- An operation in its place: its slot, its guard (the slot that it looks at, and what it wants there). -/
structure Ins where
  dst : Option Nat
  guard : Option (Nat × Bool)
  op : O
  lv : Option (List Nat) := none
  deriving Inhabited

def St.set (s : St) (dst : Option Nat) (v : D) : St :=
  match dst with
  | some d => { s with regs := (d, v) :: s.regs }
  | none => s
def wantsV (s : St) : Option (Nat × Bool) → Option Bool
  | none => some true
  | some (g, want) => match (get s.regs g).getD .junk with
    | .p (.bool b) => some (bif b then want else !want)
    | .undef => some false
    | _ => none
def keepRegs (regs : List (Nat × D)) : List Nat → List (Nat × D)
  | [] => []
  | t :: r => match get regs t with
    | none => keepRegs regs r
    | some .junk => keepRegs regs r
    | some d => (t, d) :: keepRegs regs r
/-- The slots that are looked at from here on. -/
def St.prune (s : St) (l : Option (List Nat)) : St :=
  match l with
  | some l => { s with regs := keepRegs s.regs l }
  | none => s
def step1 (cx : Cx) (env : Env) (s0 : St) (i : Ins) : Option St :=
  match wantsV (s0.prune i.lv) i.guard with
  | some true => match ev1 cx env (i.dst.getD 0) (s0.prune i.lv) i.op with
    | some (v, s') => some (s'.set i.dst v)
    | none => none
  | some false => some ((s0.prune i.lv).set i.dst .undef)
  | none => none
/-- The early part of a region that draws its order: it may make new boxes, and store into each once; it looks at the boxes that were there ('bx'). -/
def step0 (ar : Ar) (cf : FuncId → List V → Option V) (bx : Nat → Option (List D)) (s : St) (i : Ins) : Option St :=
  match wantsV s i.guard with
  | some true => match i.op with
    | .alloc zero => match i.dst with
      | some d => some ({ s with boxes := put s.boxes (s.num d) (zero.map .p) }.set i.dst (.mptr (s.num d) 0))
      | none => none
    | .store sz a x => match rdA s.regs a, (rdA s.regs x).cells with
      | .mptr id off, some ds => match get s.boxes id with
        | some cs => bif (!isRow cs && !isRow (setRange cs off ds)) && ((ds.length == sz) && Nat.ble (off + sz) cs.length) then some ({ s with boxes := put s.boxes id (setRange cs off ds) }.set i.dst .junk) else none
        | none => none
      | _, _ => none
    | op => match ev0 ar cf (rdA s.regs) bx op with
      | some v => some (s.set i.dst v)
      | none => none
  | some false => some (s.set i.dst .undef)
  | none => none
def allocsOf : List Ins → List Nat
  | [] => []
  | i :: r => match i.op, i.dst with
    | .alloc _, some d => d :: allocsOf r
    | _, _ => allocsOf r
/-- The slots of boxes that were there before, into which the early part stores; the boxes that the stores go into; what the early part may look at. -/
def oldSt (al : List Nat) : List Ins → List Nat
  | [] => []
  | i :: r => match i.op with
    | .store _ (.t d) _ => bif al.contains d then oldSt al r else d :: oldSt al r
    | _ => oldSt al r
def tg (is : List Ins) (s : St) (d : Nat) : Nat :=
  bif (allocsOf is).contains d then s.num d else match get s.regs d with
    | some (.mptr id _) => id
    | _ => s.num d
def bxD (is : List Ins) (s : St) (id : Nat) : Option (List D) :=
  bif (oldSt (allocsOf is) is).any (fun d => tg is s d == id) then none else get s.boxes id
def drwOk (is : List Ins) (s : St) : Bool :=
  (oldSt (allocsOf is) is).all fun d => (allocsOf is).all (fun d' => s.num d' != tg is s d) && (oldSt (allocsOf is) is).all fun d' => (d' == d) || (tg is s d' != tg is s d)
def killAll : List Nat → St → St
  | [], s => s
  | d :: r, s => killAll r (s.kill (s.num d))
def steps (f : St → Ins → Option St) : List Ins → St → Option St
  | [], s => some s
  | i :: r, s => match f s i with
    | some s' => steps f r s'
    | none => none

/-! What is kept behind a region. -/
def saidIn (id : Nat) : List (Nat × D) → Bool
  | [] => false
  | (_, d) :: r => d.says id || saidIn id r
def saidInStk (id : Nat) : List (List (Nat × D)) → Bool
  | [] => false
  | l :: r => saidIn id l || saidInStk id r
def saidInBoxes (id : Nat) : List (Nat × List D) → Bool
  | [] => false
  | (_, cs) :: r => cs.any (·.says id) || saidInBoxes id r
def keepBoxes (frames : List (List (Nat × D))) (all : List (Nat × List D)) : List (Nat × List D) → List (Nat × List D)
  | [] => []
  | (k, cs) :: r => bif saidInStk k frames || saidInBoxes k all then (k, cs) :: keepBoxes frames all r else keepBoxes frames all r
def keepRows (frames : List (List (Nat × D))) (all : List (Nat × List D)) : List (Nat × Nat) → List (Nat × Nat)
  | [] => []
  | (k, n) :: r => bif saidInStk k frames || saidInBoxes k all then (k, n) :: keepRows frames all r else keepRows frames all r
/-- Whoever holds the newest of a row holds version 0; whoever holds an older one may append to it no more. -/
def D.fresh (rows : List (Nat × Nat)) : D → D
  | .own id ver t xs => match get rows id with
    | some v => bif v == ver then .own id 0 t xs else .p (.sl false t xs)
    | none => .p (.sl false t xs)
  | d => d
def St.keep (s : St) (keep : List Nat) : St :=
  let regs := mapV (D.fresh s.rows) (keepRegs s.regs keep)
  let stk := s.stk.map (mapV (D.fresh s.rows))
  let boxes := mapV (List.map (D.fresh s.rows)) (keepBoxes (regs :: stk) s.boxes s.boxes)
  { s with regs, stk, boxes, rows := mapV (fun _ => 0) (keepRows (regs :: stk) boxes s.rows) }
/-- A slot that holds a slice without elements and without room begins a row of its own; a slot that holds a box of contents: the box turns no more. -/
def upgradeR (s : St) (t : Nat) : St :=
  match get s.regs t with
  | some (.mptr id 0) => match get s.boxes id with
    | some cs => match allV cs with
      | some vs => { s.kill id with regs := (t, .p (.ptr vs 0)) :: (s.kill id).regs }
      | none => s
    | none => s
  | some (.p (.sl true ty xs)) => { s.kill (s.num t) with regs := (t, .own (s.num t) 0 ty xs) :: (s.kill (s.num t)).regs, rows := put (s.kill (s.num t)).rows (s.num t) 0 }
  | _ => s
/-- The same for a cell of a box. -/
def upgradeB (s : St) (t j nid : Nat) : St :=
  match get s.regs t with
  | some (.mptr id 0) => match get s.boxes id with
    | some cs => match cs[j]? with
      | some (.p (.sl true ty xs)) => bif (nid == id) || ((nid % 2 == 1) && !xs.isEmpty) then s else bif isRow ((cs.map (D.kill nid)).set j (.own nid 0 ty xs)) || isRow cs then s else { s.kill nid with boxes := put (s.kill nid).boxes id ((cs.map (D.kill nid)).set j (.own nid 0 ty xs)), rows := put (s.kill nid).rows nid 0 }
      | _ => s
    | none => s
  | _ => s
def upgrade1 (s : St) (t : Nat) : St :=
  bif Nat.blt t 1000000 then upgradeR s t else bif Nat.blt t 1000000000000 then upgradeB s (t % 1000000) (t / 1000000 - 1) (100000000 * (t / 1000000) + s.num (t % 1000000)) else
    upgradeB s (t % 1000000) (t % 1000000000000 / 1000000 - 1) (100000000 * (t % 1000000000000 / 1000000) + s.num (t % 1000000) + 1)
def upgrade : List Nat → St → St
  | [], s => s
  | t :: r, s => upgrade r (upgrade1 s t)

/-- The same, with no claim that a slice has no room. -/
def Cp.norm : Cp → Cp
  | .p v => .p v.norm
  | c => c
def D.norm : D → D
  | .p v => .p v.norm
  | .mclo f cs => .mclo f (cs.map Cp.norm)
  | d => d
def St.norm (s : St) : St := { s with regs := mapV D.norm s.regs, stk := s.stk.map (mapV D.norm), boxes := mapV (List.map D.norm) s.boxes }
/-- The small code. -/
inductive C where
  | skip
  | reg (ops : List Ins)
  | drw (ops late : List Ins)
  | seq (a b : C)
  | cond (c : A) (a b : C)
  | blk (id : Nat) (b : C)
  | loop (lv : List Nat) (b : C)
  | exit (id : Nat)
  | ret
  | rng (lv : List Nat) (g : A) (ps : List Nat) (as bd : C)
  deriving Inhabited

def iter (f : St → Option (Ex × St)) : Nat → St → Option (Ex × St)
  | 0, _ => none
  | k + 1, s => match f s with
    | some (.normal, s') => iter f k s'
    | r => r

def assign : List Nat → List D → List (Nat × D) → List (Nat × D)
  | p :: ps, d :: ds, regs => assign ps ds ((p, d) :: regs)
  | _, _, regs => regs
/-- The function that a loop ranges over, and what it holds. -/
def seqOf : D → Option (FuncId × List D)
  | .p (.clo f caps) => some (f, caps.map D.p)
  | .mclo f cs => some (f, cs.map Cp.toD)
  | _ => none
def Ps.ofEx : Ex → Ps
  | .normal => .ready
  | e => .done e
def Ex.isNormal : Ex → Bool
  | .normal => true
  | _ => false
def Env.and (env : Env) (lvl : Nat) (h : List D → St → Option (D × St)) : Env := fun j => bif j == lvl then h else env j
/-- One round of a loop over a function. -/
def round (lvl hgt : Nat) (ps : List Nat) (as bd : St → Option (Ex × St)) (ds : List D) (s : St) : Option (D × St) :=
  match get s.lps lvl with
  | some .ready => match (s.regs :: s.stk)[s.stk.length - hgt]? with
    | some snap => bif ds.length == ps.length then (match as { s with regs := assign ps ds snap, stk := s.regs :: s.stk } with
      | some (.normal, s2) => match get s2.lps lvl with
        | some .ready => match bd { s2 with lps := put s2.lps lvl .busy } with
          | some (e, s3) => match s3.stk with
            | r :: st => some (.p (.bool e.isNormal), { s3 with regs := r, stk := st, lps := put s3.lps lvl (Ps.ofEx e) })
            | [] => none
          | none => none
        | _ => none
      | _ => none) else none
    | none => none
  | _ => none
def evC (cx : Cx) (keep up : List Nat) (k : Nat) : C → Env → St → Option (Ex × St)
  | .skip, _, s => some (.normal, s)
  | .reg ops, env, s => match steps (step1 cx env) ops s with
    | some s' => some (.normal, upgrade up (s'.keep keep))
    | none => none
  | .drw ops late, env, s => bif !drwOk ops (killAll (allocsOf ops) s) then none else match steps (step0 cx.ar cx.cf (bxD ops (killAll (allocsOf ops) s))) ops (killAll (allocsOf ops) s) with
    | some s1 => match steps (step1 cx env) late s1 with
      | some s' => some (.normal, upgrade up (s'.keep keep))
      | none => none
    | none => none
  | .seq a b, env, s => match evC cx keep up k a env s with
    | some (.normal, s') => evC cx keep up k b env s'
    | r => r
  | .cond c a b, env, s => match rdA s.regs c with
    | .p (.bool t) => bif t then evC cx keep up k a env s else evC cx keep up k b env s
    | _ => none
  | .blk id b, env, s => match evC cx keep up k b env s with
    | some (.exit j, s') => bif j == id then some (.normal, s') else some (.exit j, s')
    | r => r
  | .loop lv b, env, s => iter (fun s => evC cx keep up k b env (s.keep lv).norm) k s
  | .exit id, _, s => some (.exit id, s)
  | .ret, _, s => some (.ret, s)
  | .rng lv g ps as bd, env, s0 => let s := (s0.keep lv).norm
    match seqOf (rdA s.regs g), get s.lps s.lps.length with
    | some (f, caps), none =>
      match cx.run (env.and s.lps.length (round s.lps.length s.stk.length ps (evC cx keep up k as env) (evC cx keep up k bd env))) f (.yld s.lps.length :: caps) { s with lps := put s.lps s.lps.length .ready } with
      | some (_, s') => match get s'.lps s.lps.length with
        | some .ready => some (.normal, s'.killY s.lps.length)
        | some (.done e) => some (e, s'.killY s.lps.length)
        | _ => none
      | none => none
    | _, _ => none

/-- Where a function's result lies. -/
inductive RV where
  | tmp (t : Nat)
  | cell (t sz : Nat) (isAgg : Bool)
  deriving Inhabited

structure Fn where
  params : Nat
  keep : List Nat
  up : List Nat
  results : List RV
  code : C
  ars : List (Nat × Ty × Ty) := []
  deriving Inhabited
/-- The arenas of a call, as it begins. -/
def ars0 : List (Nat × Ty × Ty) → List (Nat × Arena)
  | [] => []
  | (a, tk, tv) :: r => (a, .mp tk tv []) :: ars0 r

def resD (s : St) : RV → Option D
  | .tmp t => get s.regs t
  | .cell t sz isAgg => match rdA s.regs (.t t) with
    | .mel _ _ _ _ => none
    | _ => ev0 std (fun _ _ => none) (rdA s.regs) (get s.boxes) (.load sz isAgg (.t t))
def resDs (s : St) : List RV → Option (List D)
  | [] => some []
  | r :: rs => match resD s r with
    | some d => match resDs s rs with
      | some ds => some (d :: ds)
      | none => none
    | none => none
def result : List D → Option D
  | [d] => some d
  | ds => match allV ds with
    | some vs => some (.p (.tup vs))
    | none => none
/-- The end of a function: its results; the frame goes. -/
def leave (rs : List RV) (s : St) : Option (D × St) :=
  match resDs s rs, s.stk with
  | some ds, r :: st => match result ds with
    | some d => some (d, { s with regs := r, stk := st })
    | none => none
  | _, _ => none
def start : Nat → List D → List (Nat × D)
  | _, [] => []
  | n, v :: r => (n, v) :: start (n + 1) r
def env0 : Env := fun _ _ _ => none
def st0 : St := { regs := [], stk := [], boxes := [], rows := [], lps := [] }
def fst? : Option (D × St) → Option V
  | some (d, _) => match d.toV with
    | some v => bif v.ty.nr then some v else none
    | none => none
  | none => none

/-- A call that may turn the state. -/
def runF (tab : FuncId → Option Fn) (cf : FuncId → List V → Option V) (k : Nat) : Nat → Env → FuncId → List D → St → Option (D × St)
  | 0, _, _, _, _ => none
  | n + 1, env, f, ds, s => match tab f with
    | some fn => bif ds.length == fn.params then (match evC ⟨std, cf, runF tab cf k n⟩ fn.keep fn.up k fn.code env { s with regs := start 0 ds, stk := s.regs :: s.stk } with
      | some (.normal, s') => leave fn.results s'
      | some (.ret, s') => leave fn.results s'
      | _ => none) else none
    | none => none
/-- A call by contents. -/
def callF (tab : FuncId → Option Fn) (cf : FuncId → List V → Option V) (k n : Nat) (f : FuncId) (vs : List V) : Option V :=
  match tab f with
  | some fn => bif (vs.length == fn.params) && (tysL vs).nr then (match evC ⟨std, cf, runF tab cf k n⟩ fn.keep fn.up k fn.code env0 { st0 with regs := start 0 (vs.map D.p), stk := [[]], ars := ars0 fn.ars } with
    | some (.normal, s') => fst? (leave fn.results s')
    | some (.ret, s') => fst? (leave fn.results s')
    | _ => none) else none
  | none => none

end Go.Evl
