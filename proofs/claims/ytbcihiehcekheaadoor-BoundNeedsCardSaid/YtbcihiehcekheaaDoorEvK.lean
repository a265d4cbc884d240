/-
  A value semantics for the program's code, part K: the evaluation handed on from step to step, so that a function of the program comes to a Lean function over numbers and lists, by reduction alone.
  Conditions: none; this text holds definitions and lemmas of their own.
-/
import Derived.Test.YtbcihiehcekheaaDoorEv2
namespace Go.Evl
open Go

--COMB
def obind {α β : Type} (o : Option α) (f : α → Option β) : Option β :=
  match o with
  | some a => f a
  | none => none
def tst {β : Type} (b : Bool) (x y : Option β) : Option β :=
  match b with
  | true => x
  | false => y
def loopK {T β : Type} (F : (T → Option β) → T → Option β) : Nat → T → Option β
  | 0, _ => none
  | k + 1, t => F (loopK F k) t
/-- A mark: here a loop is left. -/
def xit {β : Type} (x : Option β) : Option β := x
@[reducible] def force {β : Type} (s : St) (κ : St → Option β) : Option β := κ s
--END

/-! ### The data in a state -/
structure Fill (α : Type) where
  vals : α → List V
  fill : α → List V → α × List V
  like : α → α → Bool
  nrm : α → α
def listVals {α : Type} (F : Fill α) : List α → List V
  | [] => []
  | a :: r => F.vals a ++ listVals F r
def listFill {α : Type} (F : Fill α) : List α → List V → List α × List V
  | [], vs => ([], vs)
  | a :: r, vs => ((F.fill a vs).1 :: (listFill F r (F.fill a vs).2).1, (listFill F r (F.fill a vs).2).2)
def listLike {α : Type} (F : Fill α) : List α → List α → Bool
  | [], [] => true
  | a :: r, b :: s => F.like a b && listLike F r s
  | _, _ => false
def Fill.list {α : Type} (F : Fill α) : Fill (List α) := ⟨listVals F, listFill F, listLike F, List.map F.nrm⟩
def Fill.key {α : Type} (F : Fill α) : Fill (Nat × α) := ⟨fun x => F.vals x.2, fun x vs => ((x.1, (F.fill x.2 vs).1), (F.fill x.2 vs).2), fun x y => x.1 == y.1 && F.like x.2 y.2, fun x => (x.1, F.nrm x.2)⟩
def fCp : Fill Cp := {
  vals
    | .p v => [v]
    | _ => []
  fill c vs := match c with
    | .p _ => (match vs with
      | v :: r => (.p v, r)
      | [] => (c, []))
    | c => (c, vs)
  like c c' := match c with
    | .p _ => (match c' with
      | .p _ => true
      | _ => false)
    | .mptr i o => (match c' with
      | .mptr i' o' => i == i' && o == o'
      | _ => false)
  nrm := Cp.norm }
def fD : Fill D := {
  vals
    | .p v => [v]
    | .own _ _ t xs => [.sl false t xs]
    | .mclo _ cs => fCp.list.vals cs
    | .row t xs => [.sl false t xs]
    | .msl _ _ lo len => [.int .i64 lo, .int .i64 len]
    | .mel _ _ i _ => [.int .i64 i]
    | _ => []
  fill d vs := match d with
    | .p _ => (match vs with
      | v :: r => (.p v, r)
      | [] => (d, []))
    | .own id ver t _ => (match vs with
      | v :: r => (match v with
        | .sl _ t' xs => (match castL t' t xs with
          | some ys => (.own id ver t ys, r)
          | none => (.junk, r))
        | _ => (.junk, r))
      | [] => (d, []))
    | .mclo f cs => (.mclo f (fCp.list.fill cs vs).1, (fCp.list.fill cs vs).2)
    | .row t _ => (match vs with
      | v :: r => (match v with
        | .sl _ t' xs => (match castL t' t xs with
          | some ys => (.row t ys, r)
          | none => (.junk, r))
        | _ => (.junk, r))
      | [] => (d, []))
    | .msl id sz _ _ => (match vs with
      | v :: r => (match v with
        | .int _ lo => (match r with
          | v' :: r' => (match v' with
            | .int _ len => (.msl id sz lo len, r')
            | _ => (.junk, r'))
          | [] => (d, []))
        | _ => (.junk, r))
      | [] => (d, []))
    | .mel id sz _ off => (match vs with
      | v :: r => (match v with
        | .int _ i => (.mel id sz i off, r)
        | _ => (.junk, r))
      | [] => (d, []))
    | d => (d, vs)
  like d d' := match d with
    | .junk => (match d' with
      | .junk => true
      | _ => false)
    | .undef => (match d' with
      | .undef => true
      | _ => false)
    | .p _ => (match d' with
      | .p _ => true
      | _ => false)
    | .own i v t _ => (match d' with
      | .own i' v' t' _ => i == i' && (v == v' && t.same t')
      | _ => false)
    | .mptr i o => (match d' with
      | .mptr i' o' => i == i' && o == o'
      | _ => false)
    | .mclo f cs => (match d' with
      | .mclo f' cs' => f == f' && fCp.list.like cs cs'
      | _ => false)
    | .yld l => (match d' with
      | .yld l' => l == l'
      | _ => false)
    | .row t _ => (match d' with
      | .row t' _ => t.same t'
      | _ => false)
    | .msl i z _ _ => (match d' with
      | .msl i' z' _ _ => i == i' && z == z'
      | _ => false)
    | .mel i z _ o => (match d' with
      | .mel i' z' _ o' => i == i' && (z == z' && o == o')
      | _ => false)
  nrm := D.norm }
def fAr : Fill Arena := {
  vals
    | .mp tk tv xs => [.sl false (.sl (.tup (.cons tk (.cons tv .nil)))) xs]
  fill a vs := match a with
    | .mp tk tv _ => (match vs with
      | v :: r => (match v with
        | .sl _ t' xs => (match castL t' (.sl (.tup (.cons tk (.cons tv .nil)))) xs with
          | some ys => (.mp tk tv ys, r)
          | none => (.mp tk tv [], r))
        | _ => (.mp tk tv [], r))
      | [] => (a, []))
  like a a' := match a with
    | .mp tk tv _ => (match a' with
      | .mp tk' tv' _ => tk.same tk' && tv.same tv')
  nrm a := a }
def fArs : Fill (List (Nat × Arena)) := fAr.key.list
def fRegs : Fill (List (Nat × D)) := fD.key.list
def fBoxes : Fill (List (Nat × List D)) := fD.list.key.list
def likeRows : List (Nat × Nat) → List (Nat × Nat) → Bool
  | [], [] => true
  | a :: r, b :: s => a.1 == b.1 && (a.2 == b.2 && likeRows r s)
  | _, _ => false
def Ex.like : Ex → Ex → Bool
  | .normal, .normal => true
  | .exit i, .exit j => i == j
  | .ret, .ret => true
  | _, _ => false
def Ps.like : Ps → Ps → Bool
  | .ready, .ready => true
  | .busy, .busy => true
  | .done e, .done e' => e.like e'
  | _, _ => false
def likeLps : List (Nat × Ps) → List (Nat × Ps) → Bool
  | [], [] => true
  | a :: r, b :: s => a.1 == b.1 && (a.2.like b.2 && likeLps r s)
  | _, _ => false
def St.vals (s : St) : List V := fRegs.vals s.regs ++ (fRegs.list.vals s.stk ++ (fBoxes.vals s.boxes ++ fArs.vals s.ars))
def St.fill (s : St) (vs : List V) : St :=
  { s with
    regs := (fRegs.fill s.regs vs).1
    stk := (fRegs.list.fill s.stk (fRegs.fill s.regs vs).2).1
    boxes := (fBoxes.fill s.boxes (fRegs.list.fill s.stk (fRegs.fill s.regs vs).2).2).1
    ars := (fArs.fill s.ars (fBoxes.fill s.boxes (fRegs.list.fill s.stk (fRegs.fill s.regs vs).2).2).2).1 }
def St.like (s s' : St) : Bool := fRegs.like s.regs s'.regs && (fRegs.list.like s.stk s'.stk && (fBoxes.like s.boxes s'.boxes && (likeRows s.rows s'.rows && (likeLps s.lps s'.lps && fArs.like s.ars s'.ars))))

/-! ### The evaluation -/
section
variable {β : Type}
abbrev EnvK (β : Type) := Nat → List D → St → (D → St → Option β) → Option β
structure CxK (β : Type) : Type 1 where
  ar : Ar
  cf : FuncId → List V → (V → Option β) → Option β
  run : EnvK β → FuncId → List D → St → (D → St → Option β) → Option β

def binK (ar : Ar) (op : BinOp) (a b : V) (κ : V → Option β) : Option β :=
  match a with
  | .int k x => (match b with
    | .int k' y => bif isShift op then (match op with
      | .shl => tst (ar.le 0 y) (κ (.int k (ar.shl k x y))) none
      | .shr => tst (ar.le 0 y) (κ (.int k (ar.shr k x y))) none
      | _ => none) else bif kindEq k k' then (match op with
      | .quo => tst (ar.nz y) (κ (.int k (ar.quo k x y))) none
      | .rem => tst (ar.nz y) (κ (.int k (ar.rem k x y))) none
      | op => match binI ar op k x y with
        | some v => κ v
        | none => none) else none
    | _ => none)
  | .str x => (match b with
    | .str y => (match op with
      | .add => tst (ar.sfits x y) (κ (.str (ar.sapp x y))) none
      | op => match binV ar op (.str x) (.str y) with
        | some v => κ v
        | none => none)
    | _ => none)
  | _ => none
/-- Which of the places of an array. -/
def arrK (ar : Ar) (n : Int) (κ : Nat → Option β) : Nat → Nat → Option β
  | 0, _ => none
  | m + 1, j => tst (ar.eq n j) (κ j) (arrK ar n κ m (j + 1))
def ev0K (ar : Ar) (cf : FuncId → List V → (V → Option β) → Option β) (rd : A → D) (bx : Nat → Option (List D)) (o : O) (κ : D → Option β) : Option β :=
  match o with
  | .pick c a b => match rd c with
    | .p (.bool t) => tst t (κ (rd a)) (κ (rd b))
    | _ => none
  | .bin op x y => match rd x with
    | .p a => (match rd y with
      | .p b => binK ar op a b fun v => κ (.p v)
      | _ => none)
    | _ => none
  | .ia sz x i => match rd i with
    | .p (.int _ n) => (match rd x with
      | .msl id sz' lo len => bif sz == sz' then tst (ar.an (ar.le 0 n) (ar.lt n len)) (κ (.mel id sz (ar.ia lo n) 0)) none else none
      | d => match d.toV with
        | some (.sl _ t xs) => bif t.csz == sz then obind (ar.idx xs n) fun e => κ (.p (.ptr (t.enc e).cells 0)) else none
        | _ => none)
    | _ => none
  | .load sz isAgg x => match rd x with
    | .mel id sz' i off => (match bx id with
      | some [.row t xs] => bif (t.csz == sz') && (Nat.blt 0 sz' && Nat.ble (off + sz) sz') then obind (ar.idx xs i) fun e => (match partV (t.enc e).cells off sz isAgg with
        | some v => κ (.p v)
        | none => none) else none
      | _ => none)
    | _ => match ev0 ar (fun _ _ => none) rd bx (.load sz isAgg x) with
      | some d => κ d
      | none => none
  | .sidx x i => match rd x with
    | .p (.str s) => (match rd i with
      | .p (.int _ n) => obind (ar.sidx s n) fun b => κ (.p (.int .u8 b))
      | _ => none)
    | _ => none
  | .call f args => match allV (args.map rd) with
    | some vs => cf f vs fun v => κ (.p v)
    | none => none
  | .callv g args => match rd g with
    | .p (.clo f caps) => (match allV (args.map rd) with
      | some vs => cf f (vs ++ caps) fun v => κ (.p v)
      | none => none)
    | _ => none
  | .slc sz x lo hi mx => match optI rd lo with
    | some l => (match optI rd hi with
      | some h => (match optI rd mx with
        | some m => (match rd x with
          | .p (.sl _ t xs) => bif t.csz == sz then obind (ar.slc xs l h m) fun q => κ (.p (.sl m.isSome t q)) else none
          | .own _ _ t xs => bif t.csz == sz then obind (ar.slc xs l h m) fun q => κ (.p (.sl m.isSome t q)) else none
          | .msl id sz' lo len => bif (sz == sz') && !m.isSome then obind (ar.mslc len l h) fun q => κ (.msl id sz (ar.ia lo q.1) (ar.is q.2 q.1)) else none
          | _ => none)
        | none => none)
      | none => none)
    | none => none
  | .sstr x lo hi => match optI rd lo with
    | some l => (match optI rd hi with
      | some h => (match rd x with
        | .p (.str s) => obind (ar.sslc s l h) fun t => κ (.p (.str t))
        | _ => none)
      | none => none)
    | none => none
  | o => match ev0 ar (fun _ _ => none) rd bx o with
    | some d => κ d
    | none => none

def ev1K (cx : CxK β) (env : EnvK β) (dst : Nat) (s : St) (o : O) (κ : D → St → Option β) : Option β :=
  match o with
  | .alloc zero => κ (.mptr (s.num dst) 0) { s.kill (s.num dst) with boxes := put (s.kill (s.num dst)).boxes (s.num dst) (zero.map .p) }
  | .boxm x => match ((rdA s.regs x).kill (s.num dst)).cells with
      | some cs => κ (.mptr (s.num dst) 0) { s.kill (s.num dst) with boxes := put (s.kill (s.num dst)).boxes (s.num dst) cs }
      | none => none
  | .store sz a x => match rdA s.regs a with
    | .mptr id off => (match (rdA s.regs x).cells with
      | some ds => (match get s.boxes id with
        | some cs => bif (!isRow cs && !isRow (setRange cs off ds)) && ((ds.length == sz) && Nat.ble (off + sz) cs.length) then κ .junk { s with boxes := put s.boxes id (setRange cs off ds) } else none
        | none => none)
      | none => none)
    | .mel id sz' i off => (match (rdA s.regs x).cells with
      | some ds => (match get s.boxes id with
        | some [.row t xs] => (match allV ds with
          | some vs => bif ((t.csz == sz') && Nat.blt 0 sz') && ((ds.length == sz) && Nat.ble (off + sz) sz') then obind (cx.ar.idx xs i) fun e => (match t.dec (t.ofCells (setRange (t.enc e).cells off vs)) with
            | some e' => κ .junk { s with boxes := put s.boxes id [.row t (cx.ar.set xs i e')] }
            | none => none) else none
          | none => none)
        | _ => none)
      | none => none)
    | _ => none
  | .frz x => match rdA s.regs x with
    | .msl id sz lo len => (match get s.boxes id with
      | some [.row t xs] => bif (t.csz == sz) && Nat.blt 0 sz then obind (cx.ar.part xs lo len) fun ys => κ (.p (.sl false t ys)) (s.kill id) else none
      | _ => none)
    | d => κ d s
  | .cln f sz bytes x => match cloneFn f with
    | some (sz', bytes') => (match (rdA s.regs x).toV with
      | some (.sl _ t xs) => bif ((sz == sz') && (bytes == bytes')) && (t.csz == sz) then tst (cx.ar.fits bytes xs [])
          (κ (.msl (s.num dst) sz 0 (cx.ar.len xs)) { s.kill (s.num dst) with boxes := put (s.kill (s.num dst)).boxes (s.num dst) [.row t xs] }) none else none
      | _ => none)
    | none => none
  | .clr zero x => match rdA s.regs x with
    | .msl id sz lo len => (match get s.boxes id with
      | some [.row t xs] => (match t.dec zero with
        | some z => bif t.csz == sz then tst (cx.ar.an (cx.ar.le 0 lo) (cx.ar.le (cx.ar.ia lo len) (cx.ar.len xs)))
          (κ (.p (.tup [])) { s with boxes := put s.boxes id [.row t (cx.ar.clr xs lo len z)] }) none else none
        | none => none)
      | _ => none)
    | _ => none
  | .allb zero => κ (.mptr (s.num dst + 1) 0) { s.kill (s.num dst + 1) with boxes := put (s.kill (s.num dst + 1)).boxes (s.num dst + 1) (zero.map .p) }
  | .bcc f x => match rdA s.regs x with
    | .mptr id 0 => (match get s.boxes id with
      | some [c0, c1] => bif bccFn f && (id % 2 == 1) then (match c0 with
        | .p (.lit 0) => κ (.p (.tup [])) { s with boxes := put s.boxes id [.mptr id 0, c1] }
        | .mptr id' 0 => bif id' == id then κ (.p (.tup [])) s else none
        | _ => none) else none
      | _ => none)
    | _ => none
  | .apps sl x => match rdA s.regs x with
    | .p (.str b) => (match rdA s.regs sl with
      | .own id ver (.int .u8) xs => (match get s.rows id with
        | some v => bif v == ver then tst (cx.ar.fits 1 xs (cx.ar.sby b))
            (κ (.own id (ver + 1) (.int .u8) (cx.ar.app xs (cx.ar.sby b))) { s with rows := put s.rows id (ver + 1) }) none else none
        | none => none)
      | _ => none)
    | _ => none
  | .bstr f x => match rdA s.regs x with
    | .mptr id 0 => (match get s.boxes id with
      | some [_, .own rid ver (.int .u8) xs] => (match get s.rows rid with
        | some v => bif (bstrFn f && (id % 2 == 1)) && ((rid % 2 == 1) && (v == ver)) then tst (cx.ar.an (cx.ar.fits 1 xs []) (cx.ar.bys xs)) (κ (.p (.str (cx.ar.yb xs))) ((s.kill id).kill rid)) none else none
        | none => none)
      | _ => none)
    | _ => none
  | .mkm a => match get s.ars a with
    | some (.mp tk tv xs) => κ (.p (.ref (.mp a) (cx.ar.len xs) 0 0)) { s with ars := put s.ars a (.mp tk tv (cx.ar.app xs [[]])) }
    | none => none
  | .mset tk tv x k v => match rdA s.regs x with
    | .p (.ref (.mp a) i _ _) => (match (rdA s.regs k).toV with
      | some kv => (match (rdA s.regs v).toV with
        | some vv => (match get s.ars a with
          | some (.mp tk' tv' xs) => bif tk.keyable && (tk.same tk' && tv.same tv') then (match tk'.dec kv with
            | some kd => (match tv'.dec vv with
              | some vd => obind (cx.ar.idx xs i) fun es => κ .junk { s with ars := put s.ars a (.mp tk' tv' (cx.ar.set xs i (cx.ar.mset tk' es kd vd))) }
              | none => none)
            | none => none) else none
          | none => none)
        | none => none)
      | none => none)
    | _ => none
  | .mget tk tv zero ok x k => match rdA s.regs x with
    | .p (.ref (.mp a) i _ _) => (match (rdA s.regs k).toV with
      | some kv => (match get s.ars a with
        | some (.mp tk' tv' xs) => bif tk.keyable && (tk.same tk' && tv.same tv') then (match tk'.dec kv with
          | some kd => (match tv'.dec zero with
            | some z => obind (cx.ar.idx xs i) fun es => κ (.p (bif ok then .tup [tv'.enc (cx.ar.mget tk' es kd z), .bool (cx.ar.mhas tk' es kd)] else tv'.enc (cx.ar.mget tk' es kd z))) s
            | none => none)
          | none => none) else none
        | none => none)
      | none => none)
    | _ => none
  | .app sz bytes sl x => match (rdA s.regs x).toV with
    | some (.sl _ t' ys') => (match rdA s.regs sl with
      | .p (.sl full t xs) => bif full then (match castL t' t ys' with
          | some ys => bif t.csz == sz then tst (cx.ar.fits bytes xs ys)
            (κ (.own (s.num dst) 0 t (cx.ar.app xs ys)) { s.kill (s.num dst) with rows := put (s.kill (s.num dst)).rows (s.num dst) 0 }) none else none
          | none => none) else none
      | .own id ver t xs => (match get s.rows id with
        | some v => (match castL t' t ys' with
          | some ys => bif ((v == ver) && (id % 2 == 0)) && (t.csz == sz) then tst (cx.ar.fits bytes xs ys)
            (κ (.own id (ver + 1) t (cx.ar.app xs ys)) { s with rows := put s.rows id (ver + 1) }) none else none
          | none => none)
        | none => none)
      | _ => none)
    | _ => none
  | .call f args => match allV (args.map (rdA s.regs)) with
    | some vs => bif (tysL vs).nr then (cx.cf f vs fun v => κ (.p v) s) else cx.run env f (args.map (rdA s.regs)) s κ
    | none => cx.run env f (args.map (rdA s.regs)) s κ
  | .callv g args => match rdA s.regs g with
    | .p (.clo f caps) => (match allV (args.map (rdA s.regs)) with
      | some vs => bif (tysL (vs ++ caps)).nr then (cx.cf f (vs ++ caps) fun v => κ (.p v) s) else cx.run env f (args.map (rdA s.regs) ++ caps.map .p) s κ
      | none => cx.run env f (args.map (rdA s.regs) ++ caps.map .p) s κ)
    | .mclo f cs => cx.run env f (args.map (rdA s.regs) ++ cs.map Cp.toD) s κ
    | .yld lvl => env lvl (args.map (rdA s.regs)) s κ
    | _ => none
  | .mkf f args => match allV (args.map (rdA s.regs)) with
    | some vs => κ (.p (.clo f vs)) s
    | none => (match toCps (args.map (rdA s.regs)) with
      | some cs => κ (.mclo f cs) s
      | none => none)
  | o => ev0K cx.ar cx.cf (rdA s.regs) (get s.boxes) o fun d => κ d s

def St.fix (s : St) (g : Nat) (b : Bool) : St := { s with regs := put s.regs g (.p (.bool b)) }
/-- A place's guard. -/
def guardK (s : St) (g : Option (Nat × Bool)) (yes no : St → Option β) : Option β :=
  match g with
  | none => yes s
  | some (g, want) => match get s.regs g with
    | some (.p (.bool b)) => tst b (bif want then yes (s.fix g true) else no (s.fix g true)) (bif want then no (s.fix g false) else yes (s.fix g false))
    | some .undef => no s
    | _ => none
def step1K (cx : CxK β) (env : EnvK β) (s : St) (i : Ins) (κ : St → Option β) : Option β :=
  guardK (s.prune i.lv) i.guard (fun s => ev1K cx env (i.dst.getD 0) s i.op fun d s' => κ (s'.set i.dst d)) (fun s => κ (s.set i.dst .undef))
def step0K (ar : Ar) (cf : FuncId → List V → (V → Option β) → Option β) (bx : Nat → Option (List D)) (s : St) (i : Ins) (κ : St → Option β) : Option β :=
  guardK s i.guard (fun s => match i.op with
    | .alloc zero => (match i.dst with
      | some d => κ ({ s with boxes := put s.boxes (s.num d) (zero.map .p) }.set i.dst (.mptr (s.num d) 0))
      | none => none)
    | .store sz a x => (match rdA s.regs a with
      | .mptr id off => (match (rdA s.regs x).cells with
        | some ds => (match get s.boxes id with
          | some cs => bif (!isRow cs && !isRow (setRange cs off ds)) && ((ds.length == sz) && Nat.ble (off + sz) cs.length) then κ ({ s with boxes := put s.boxes id (setRange cs off ds) }.set i.dst .junk) else none
          | none => none)
        | none => none)
      | _ => none)
    | op => ev0K ar cf (rdA s.regs) bx op fun d => κ (s.set i.dst d)) (fun s => κ (s.set i.dst .undef))
def stepsK (f : St → Ins → (St → Option β) → Option β) : List Ins → St → (St → Option β) → Option β
  | [], s, κ => κ s
  | i :: r, s, κ => f s i fun s' => force s' fun s' => stepsK f r s' κ

def EnvK.and (env : EnvK β) (lvl : Nat) (h : List D → St → (D → St → Option β) → Option β) : EnvK β := fun j ds s κ => bif j == lvl then h ds s κ else env j ds s κ
/-- One round of a loop over a function. -/
def roundK (lvl hgt : Nat) (ps : List Nat) (as bd : St → (Ex → St → Option β) → Option β) (ds : List D) (s : St) (κ : D → St → Option β) : Option β :=
  match get s.lps lvl with
  | some .ready => (match (s.regs :: s.stk)[s.stk.length - hgt]? with
    | some snap => bif ds.length == ps.length then as { s with regs := assign ps ds snap, stk := s.regs :: s.stk } (fun e s2 => match e with
      | .normal => (match get s2.lps lvl with
        | some .ready => bd { s2 with lps := put s2.lps lvl .busy } (fun e s3 => match s3.stk with
          | r :: st => κ (.p (.bool e.isNormal)) { s3 with regs := r, stk := st, lps := put s3.lps lvl (Ps.ofEx e) }
          | [] => none)
        | _ => none)
      | _ => none) else none
    | none => none)
  | _ => none
def evK (cx : CxK β) (keep up : List Nat) (k : Nat) : C → EnvK β → St → (Ex → St → Option β) → Option β
  | .skip, _, s, K => K .normal s
  | .reg ops, env, s, K => stepsK (step1K cx env) ops s fun s' => force (upgrade up (s'.keep keep)) fun s' => K .normal s'
  | .drw ops late, env, s, K => bif !drwOk ops (killAll (allocsOf ops) s) then none else stepsK (step0K cx.ar cx.cf (bxD ops (killAll (allocsOf ops) s))) ops (killAll (allocsOf ops) s) fun s1 => stepsK (step1K cx env) late s1 fun s' => force (upgrade up (s'.keep keep)) fun s' => K .normal s'
  | .seq a b, env, s, K => evK cx keep up k a env s fun e s' => match e with
    | .normal => evK cx keep up k b env s' K
    | .exit j => K (.exit j) s'
    | .ret => K .ret s'
  | .cond c a b, env, s, K => match c with
    | .t g => (match get s.regs g with
      | some (.p (.bool t)) => tst t (evK cx keep up k a env (s.fix g true) K) (evK cx keep up k b env (s.fix g false) K)
      | _ => none)
    | .v (.bool t) => tst t (evK cx keep up k a env s K) (evK cx keep up k b env s K)
    | _ => none
  | .blk id b, env, s, K => evK cx keep up k b env s fun e s' => match e with
    | .exit j => bif j == id then K .normal s' else K (.exit j) s'
    | .normal => K .normal s'
    | .ret => K .ret s'
  | .loop lv b, env, s, K => loopK (fun rec t => force ((s.keep lv).fill ((tysL (s.keep lv).vals).enc t)) fun s1 => evK cx keep up k b env s1 fun e s' => match e with
      | .normal => bif (s.keep lv).like (s'.keep lv) then (match (tysL (s.keep lv).vals).dec (s'.keep lv).vals with
        | some t' => rec t'
        | none => none) else none
      | .exit j => xit (K (.exit j) s')
      | .ret => xit (K .ret s')) k (datL (s.keep lv).vals)
  | .exit id, _, s, K => K (.exit id) s
  | .ret, _, s, K => K .ret s
  | .rng lv g ps as bd, env, s0, K => match seqOf (rdA (s0.keep lv).norm.regs g) with
    | some (f, caps) => (match get (s0.keep lv).norm.lps (s0.keep lv).norm.lps.length with
      | none => cx.run (env.and (s0.keep lv).norm.lps.length (roundK (s0.keep lv).norm.lps.length (s0.keep lv).norm.stk.length ps (evK cx keep up k as env) (evK cx keep up k bd env))) f (.yld (s0.keep lv).norm.lps.length :: caps)
          { (s0.keep lv).norm with lps := put (s0.keep lv).norm.lps (s0.keep lv).norm.lps.length .ready } fun _ s' => (match get s'.lps (s0.keep lv).norm.lps.length with
            | some .ready => K .normal (s'.killY (s0.keep lv).norm.lps.length)
            | some (.done e) => K e (s'.killY (s0.keep lv).norm.lps.length)
            | _ => none)
      | some _ => none)
    | none => none

def endK (rs : List RV) (κ : D → St → Option β) (e : Ex) (s : St) : Option β :=
  match e with
  | .exit _ => none
  | .normal => (match leave rs s with
    | some p => κ p.1 p.2
    | none => none)
  | .ret => (match leave rs s with
    | some p => κ p.1 p.2
    | none => none)
def runK (tab : FuncId → Option Fn) (ar : Ar) (cf : FuncId → List V → (V → Option β) → Option β) (k : Nat) : Nat → EnvK β → FuncId → List D → St → (D → St → Option β) → Option β
  | 0, _, _, _, _, _ => none
  | n + 1, env, f, ds, s, κ => match tab f with
    | some fn => bif ds.length == fn.params then force { s with regs := start 0 ds, stk := s.regs :: s.stk } (fun s => evK ⟨ar, cf, runK tab ar cf k n⟩ fn.keep fn.up k fn.code env s (endK fn.results κ)) else none
    | none => none
end

def Tys.of : List Ty → Tys
  | [] => .nil
  | t :: r => .cons t (Tys.of r)
/-- A function by contents of kinds. -/
structure TF where
  args : Tys
  res : Ty
  fn : args.D → Option res.D
abbrev Tab := List (Nat × TF)
/-- A call of a function of the table; 'fb': what comes of it if the table lacks it. -/
def callT {β : Type} (fb : Option β) : Tab → FuncId → List V → (V → Option β) → Option β
  | [], _, _, _ => fb
  | (g, F) :: r, f, vs, κ => bif g == f then (match F.args.dec vs with
    | some a => obind (F.fn a) fun d => κ (F.res.enc d)
    | none => callT fb r f vs κ) else callT fb r f vs κ
def envK0 {β : Type} : EnvK β := fun _ _ _ _ => none
def valK {β : Type} (κ : V → Option β) (d : D) (_ : St) : Option β :=
  match d.toV with
  | some v => bif v.ty.nr then κ v else none
  | none => none
/-- A call by contents: by the table, else by the code. -/
def cfI {β : Type} (tab : FuncId → Option Fn) (T : Tab) (ar : Ar) (k : Nat) : Nat → FuncId → List V → (V → Option β) → Option β
  | 0, f, vs, κ => callT none T f vs κ
  | n + 1, f, vs, κ => callT (match tab f with
      | some fn => bif (vs.length == fn.params) && (tysL vs).nr then evK ⟨ar, cfI tab T ar k n, runK tab ar (cfI tab T ar k n) k (n + 1)⟩ fn.keep fn.up k fn.code envK0 { st0 with regs := start 0 (vs.map D.p), stk := [[]], ars := ars0 fn.ars } (endK fn.results (valK κ)) else none
      | none => none) T f vs κ
/-- What a function comes to. -/
def callK (tab : FuncId → Option Fn) (T : Tab) (ar : Ar) (k n : Nat) (f : FuncId) (args : Tys) (res : Ty) (a : args.D) : Option res.D :=
  match tab f with
  | some fn => bif ((args.enc a).length == fn.params) && (tysL (args.enc a)).nr then evK ⟨ar, cfI tab T ar k n, runK tab ar (cfI tab T ar k n) k n⟩ fn.keep fn.up k fn.code envK0 { st0 with regs := start 0 ((args.enc a).map D.p), stk := [[]], ars := ars0 fn.ars } (endK fn.results (valK res.dec)) else none
  | none => none

end Go.Evl
