/-
  A value semantics for the program's code, part 3: when a small operation says what an operation of the program says.
  Conditions: none; this text holds definitions and lemmas of their own.
-/
import Derived.Test.YtbcihiehcekheaaDoorEv2
namespace Go.Evl
open Go

/-- Is a constant the content? -/
def okV : Value → V → Bool
  | .int k n, .int k' m => kindEq k k' && n == m
  | .bool b, .bool b' => b == b'
  | .string s, .str s' => decide (s = s')
  | .slice none 0 0, .sl true _ [] => true
  | .pointer none, .lit n => n == 0
  | .nilFunc, .lit n => n == 1
  | .nilIface, .lit n => n == 2
  | .map none, .lit n => n == 3
  | _, _ => false
theorem okV_R {M : Mem} {u : Value} {x : V} (h : okV u x = true) : R M x u ∧ single u := by
  unfold okV at h
  split at h
  · simp only [Bool.and_eq_true, beq_iff_eq] at h
    obtain ⟨h1, rfl⟩ := h
    obtain rfl := kindEq_eq h1
    exact ⟨by rw [R], rfl, rfl⟩
  · simp at h; subst h; exact ⟨by rw [R], rfl, rfl⟩
  · simp at h; subst h; exact ⟨by rw [R], rfl, rfl⟩
  · exact ⟨R_sl.2 ⟨none, 0, rfl, Nat.le_refl _, fun _ => rfl, .inl rfl⟩, rfl, rfl⟩
  · simp at h; subst h; exact ⟨R_lit.2 rfl, rfl, rfl⟩
  · simp at h; subst h; exact ⟨R_lit.2 rfl, rfl, rfl⟩
  · simp at h; subst h; exact ⟨R_lit.2 rfl, rfl, rfl⟩
  · simp at h; subst h; exact ⟨R_lit.2 rfl, rfl, rfl⟩
  · cases h
def okVs : List Value → List V → Bool
  | [], [] => true
  | u :: us, x :: xs => okV u x && okVs us xs
  | _, _ => false
theorem okVs_RL {M : Mem} : ∀ {us : List Value} {xs : List V}, okVs us xs = true → RL M xs us ∧ ∀ u ∈ us, single u
  | [], [], _ => ⟨by rw [RL], by simp⟩
  | u :: us, x :: xs, h => by
    simp only [okVs, Bool.and_eq_true] at h
    obtain ⟨h1, h2⟩ := okVs_RL (M := M) h.2
    refine ⟨by rw [RL]; exact ⟨u, us, rfl, (okV_R h.1).1, h1⟩, fun v hv => ?_⟩
    cases hv with
    | head => exact (okV_R (M := M) h.1).2
    | tail _ hv => exact h2 v hv

/-- Is an operand the small operand? -/
def okA : Operand → A → Bool
  | .tmp t, .t t' => t == t'
  | .const u, .v x => okV u x
  | .func f, .v (.clo f' []) => f == f'
  | _, _ => false
def okAs : List Operand → List A → Bool
  | [], [] => true
  | o :: os, a :: as => okA o a && okAs os as
  | _, _ => false
def okAo : Option Operand → Option A → Bool
  | none, none => true
  | some o, some a => okA o a
  | _, _ => false
def okP2 : List (Nat × Operand) → List (Nat × A) → Bool
  | [], [] => true
  | (i, o) :: os, (j, a) :: as => i == j && okA o a && okP2 os as
  | _, _ => false

/-- The slots that a small operation looks at. -/
def A.tmps : A → List Nat
  | .t n => [n]
  | .v _ => []
def tmpsL : List A → List Nat
  | [] => []
  | a :: r => a.tmps ++ tmpsL r
def tmpsO : Option A → List Nat
  | none => []
  | some a => a.tmps
def O.tmps : O → List Nat
  | .mov x | .nott x | .neg x | .load _ _ x | .fa _ x | .fld _ _ _ x | .ext _ x | .len x | .slen x | .conv _ x | .nilck x | .boxi x | .boxm x | .asl _ _ x | .frz x | .cln _ _ _ x | .clr _ x | .bcc _ x | .bstr _ x => x.tmps
  | .pick c a b => c.tmps ++ a.tmps ++ b.tmps
  | .bin _ x y | .mm _ x y | .eqb _ x y | .eqa _ _ x y | .ia _ x y | .iaa _ _ x y | .idx _ _ _ x y | .sidx x y | .store _ x y | .app _ _ x y | .apps x y => x.tmps ++ y.tmps
  | .call _ as | .mkf _ as => tmpsL as
  | .callv g as => g.tmps ++ tmpsL as
  | .bld _ ps => tmpsL (ps.map fun p => p.2.2)
  | .blda _ _ ps => tmpsL (ps.map fun p => p.2)
  | .bsl _ _ _ _ ps => tmpsL (ps.map fun p => p.2)
  | .slc _ x lo hi mx => x.tmps ++ tmpsO lo ++ tmpsO hi ++ tmpsO mx
  | .sstr x lo hi => x.tmps ++ tmpsO lo ++ tmpsO hi
  | .alloc _ | .allb _ | .mkm _ => []
  | .mset _ _ x k v => x.tmps ++ k.tmps ++ v.tmps
  | .mget _ _ _ _ x k => x.tmps ++ k.tmps

def tySize (P : Program) (t : TypeId) : Option Nat := (P.info? t).map (·.size)
def tyAgg (P : Program) (t : TypeId) : Option Bool :=
  match P.underlying t with
  | some (.struct _) | some (.array _ _) => some true
  | some _ => some false
  | none => none
def tyElem (P : Program) (t : TypeId) : Option TypeId :=
  match P.underlying t with
  | some (.slice e) => some e
  | _ => none
def tyField (P : Program) (t : TypeId) (f : Nat) : Option Field :=
  match P.underlying t with
  | some (.struct fs) => fs[f]?
  | _ => none
def okParts (P : Program) (t : TypeId) : List (Nat × Operand) → List (Nat × Nat × A) → Bool
  | [], [] => true
  | (i, o) :: os, (off, sz, a) :: as =>
    (match tyField P t i with
     | some f => f.offset == off && tySize P f.type == some sz
     | none => false) && okA o a && okParts P t os as
  | _, _ => false

def shaped : V → Value → Bool
  | .agg _, .agg _ => true
  | .agg _, _ => false
  | _, .agg _ => false
  | .tup _, _ => false
  | _, _ => true
/-- Fields of whole numbers, one behind the other. -/
def okFs (P : Program) : List Field → Nat → Bool
  | [], _ => true
  | f :: r, i => f.name != "_" && f.offset == i && (match P.underlying f.type with
    | some (.int _) => true
    | _ => false) && okFs P r (i + 1)
/-- A type of the program that has the keys of a kind. -/
def okKey (P : Program) (kt : TypeId) (tk : Ty) : Bool :=
  match tk with
  | .int k => (match P.underlying kt with
    | some (.int k') => kindEq k' k
    | _ => false)
  | .agg ts => (match P.underlying kt with
    | some (.struct fs) => fs.size == ts.len && (okFs P fs.toList 0 && (!P.stoodInHeld kt && ts.ints))
    | _ => false)
  | _ => false
def okOp (P : Program) : Op → O → Bool
  | .move x, .mov y | .assign x, .mov y => okA x y
  | .move x, .frz y | .assign x, .frz y => okA x y
  | .call c, .cln f _ _ x => (match c.callee, c.args.toList with
      | .value (.func g), [y] => g == f && okA y x
      | _, _ => false)
  | .call c, .bcc f x => (match c.callee, c.args.toList with
      | .value (.func g), [y] => g == f && okA y x
      | _, _ => false)
  | .call c, .bstr f x => (match c.callee, c.args.toList with
      | .value (.func g), [y] => g == f && okA y x
      | _, _ => false)
  | .call c, .apps x y => (match c.callee, c.args.toList, c.argTypes.toList with
      | .builtin .append, [x', y'], [t, t'] => okA x' x && okA y' y && (match P.underlying t' with
          | some .string => true
          | _ => false) && tyElem P t == some byTy && (match P.info? byTy with
          | some i => i.size == 1 && i.bytes == 1 && (match i.zero with
              | some (.int .u8 0) => true
              | _ => false)
          | none => false)
      | _, _, _ => false)
  | .call c, .clr zero x => (match c.callee, c.args.toList, c.argTypes.toList with
      | .builtin .clear, [y], [t] => okA y x && (match tyElem P t with
          | some e => (match P.info? e with
              | some i => (match i.zero with
                  | some z => okVs z.cells.toList zero.cells && shaped zero z
                  | none => false)
              | none => false)
          | none => false)
      | _, _, _ => false)
  | .pick c a b, .pick c' a' b' => okA c c' && okA a a' && okA b b'
  | .binOp op _ x y _, .bin op' x' y' => decide (op = op') && okA x x' && okA y y'
  | .binOp op t x y _, .eqb neg x' y' => decide (op = if neg then .neq else .eql) && okA x x' && okA y y' && (match P.underlying t with
      | some .bool => true
      | _ => false)
  | .binOp op t x y _, .eqa neg n x' y' => decide (op = if neg then .neq else .eql) && okA x x' && okA y y' && (match P.underlying t with
      | some (.struct fs) => fs.size == n && okFs P fs.toList 0 && !P.stoodInHeld t && !P.eqGuardType P.depth t
      | _ => false)
  | .unOp op _ x, .nott y => decide (op = .not) && okA x y
  | .unOp op _ x, .neg y => decide (op = .neg) && okA x y
  | .load t x, .load sz isAgg y => okA x y && tySize P t == some sz && tyAgg P t == some isAgg
  | .fieldAddr t x f, .fa off y => okA x y && (match tyField P t f with
      | some fd => fd.offset == off && (match tySize P fd.type with | some s => s != 0 | none => false)
      | none => false)
  | .field t x f, .fld off sz isAgg y => okA x y && (match tyField P t f with
      | some fd => fd.offset == off && tySize P fd.type == some sz && tyAgg P fd.type == some isAgg
      | none => false)
  | .indexAddr t x i, .ia sz x' i' => okA x x' && okA i i' && (match tyElem P t with
      | some e => tySize P e == some sz && sz != 0
      | none => false)
  | .indexAddr t x i, .iaa len sz x' i' => okA x x' && okA i i' && (match P.underlying t with
      | some (.array n e) => n == len && tySize P e == some sz
      | _ => false)
  | .index t x i, .idx len sz isAgg x' i' => okA x x' && okA i i' && (match P.underlying t with
      | some (.array n e) => n == len && tySize P e == some sz && tyAgg P e == some isAgg
      | _ => false)
  | .index t x i, .sidx x' i' => okA x x' && okA i i' && (match P.underlying t with
      | some .string => true
      | _ => false)
  | .extract x i, .ext i' y => okA x y && i == i'
  | .call c, .call f as => (match c.callee with
      | .value (.func g) => g == f && okAs c.args.toList as
      | _ => false)
  | .call c, .callv g as => (match c.callee with
      | .value h => okA h g && okAs c.args.toList as
      | _ => false)
  | .call c, .len x => (match c.callee, c.args.toList, c.argTypes.toList with
      | .builtin .len, [y], [t] => okA y x && (match P.underlying t with
          | some (.slice _) => true
          | _ => false)
      | _, _, _ => false)
  | .call c, .slen x => (match c.callee, c.args.toList, c.argTypes.toList with
      | .builtin .len, [y], [t] => okA y x && (match P.underlying t with
          | some .string => true
          | _ => false)
      | _, _, _ => false)
  | .call c, .mm mx x y => (match c.callee, c.args.toList with
      | .builtin .min, [x', y'] => !mx && okA x' x && okA y' y
      | .builtin .max, [x', y'] => mx && okA x' x && okA y' y
      | _, _ => false)
  | .call c, .app sz bytes s x => (match c.callee, c.args.toList, c.argTypes.toList with
      | .builtin .append, [s', x'], [t, t'] => okA s' s && okA x' x && (match tyElem P t, tyElem P t' with
          | some e, some _ => (match P.info? e with
              | some i => i.size == sz && i.bytes == bytes && sz != 0 && bytes != 0 && (match i.zero with
                  | some z => z.cells.size == sz
                  | none => false)
              | none => false)
          | _, _ => false)
      | _, _, _ => false)
  | .build t ps, .bld zero qs => (match P.underlying t with
      | some (.struct fs) => (fs.toList.all fun f => (tySize P f.type).isSome) && (match P.info? t with
          | some i => (match i.zero with
              | some z => okVs z.cells.toList zero
              | none => false)
          | none => false) && okParts P t ps.toList qs
      | _ => false)
  | .build t ps, .blda zero sz qs => okP2 ps.toList qs && (match P.underlying t with
      | some (.array _ e) => tySize P e == some sz && (match P.info? t with
          | some i => (match i.zero with
              | some z => okVs z.cells.toList zero
              | none => false)
          | none => false)
      | _ => false)
  | .slice t x lo hi mx, .asl _ n y => okA x y && lo.isNone && hi.isNone && mx.isNone && (match P.underlying t with
      | some (.array m e) => m == n && tySize P e == some 1
      | _ => false)
  | .buildSlice t n ps, .bsl _ zero sz n' qs => n == n' && okP2 ps.toList qs && (match tyElem P t with
      | some e => (match P.info? e with
          | some i => i.size == sz && sz != 0 && Nat.ble (n * sz) 16777216 && (match i.zero with
              | some z => okVs z.cells.toList zero.cells && z.cells.size == sz && shaped zero z
              | none => false)
          | none => false)
      | none => false)
  | .makeFunc fn first caps, .mkf f as => (match fn with
      | .func g => g == f && first.isEmpty && okAs caps.toList as
      | _ => false)
  | .slice t x lo hi mx, .slc sz x' lo' hi' mx' => okA x x' && okAo lo lo' && okAo hi hi' && okAo mx mx' && (match tyElem P t with
      | some e => tySize P e == some sz && sz != 0
      | none => false)
  | .slice t x lo hi mx, .sstr x' lo' hi' => okA x x' && okAo lo lo' && okAo hi hi' && mx.isNone && (match P.underlying t with
      | some .string => true
      | _ => false)
  | .convert src dst x, .conv k y => okA x y && (P.underlying src).isSome && (match P.underlying dst with
      | some (.int k') => kindEq k' k
      | _ => false)
  | .nilCheck x, .nilck y => okA x y
  | .box _ x, .boxi y => okA x y
  | .box _ x, .boxm y => okA x y
  | .alloc t, .allb zero => t == bldTy && zero.length == 2 && (match P.info? t with
      | some i => (match i.zero with
          | some z => okVs z.cells.toList zero
          | none => false)
      | none => false)
  | .alloc t, .alloc zero => (match P.info? t with
      | some i => (match i.zero with
          | some z => okVs z.cells.toList zero
          | none => false)
      | none => false)
  | .store t a x, .store sz a' x' => okA a a' && okA x x' && tySize P t == some sz
  | .makeMap t r, .mkm _ => r.isNone && (match P.underlying t with
      | some (.map _ _) => true
      | _ => false)
  | .mapUpdate t m k x, .mset tk _ m' k' x' => okA m m' && okA k k' && okA x x' && (match P.underlying t with
      | some (.map kt _) => okKey P kt tk
      | _ => false)
  | .lookup t m k ok, .mget tk _ zero ok' m' k' => okA m m' && okA k k' && ok == ok' && (match P.underlying t with
      | some (.map kt et) => okKey P kt tk && (match P.info? et with
        | some i => (match i.zero with
          | some z => okVs z.cells.toList zero.cells && shaped zero z
          | none => false)
        | none => false)
      | _ => false)
  | _, _ => false

/-- What a place of an operation in a region must be; 'ops': the whole region. -/
def okIns (P : Program) (N : Nat) (ops : List Oper) (o : Oper) (i : Ins) : Bool :=
  (match o.dst, i.dst with
   | none, none => true
   | some d, some d' => d == d' && Nat.blt d N
   | _, _ => false) &&
  (match o.guard, i.guard with
   | none, none => true
   | some (j, want), some (g, want') => (ops[j]?.bind (·.dst)) == some g && want == want'
   | _, _ => false) && okOp P o.op i.op
def okInss (P : Program) (N : Nat) (ops : List Oper) : List Oper → List Ins → Bool
  | [], [] => true
  | o :: os, i :: is => okIns P N ops o i && okInss P N ops os is
  | _, _ => false

/-- The slots that a place looks at, its guard's too. -/
def Ins.tmps (i : Ins) : List Nat := (match i.guard with | some (g, _) => [g] | none => []) ++ i.op.tmps
def onto (o : Oper) (j : Nat) : Bool := o.after.toList.any fun e => e.on == j && Region.binds .any e
/-- A region that draws: each slot is written once, and whoever looks at it waits for its writer, or the writer waits for him. -/
def okDraw1 (ops : List Oper) (is : List Ins) (i : Nat) (o : Oper) (x : Ins) : Bool :=
  is.zipIdx.all fun (y, j) => match y.dst with
    | none => true
    | some d => i == j || ((!(x.tmps.contains d) || (if j < i then onto o j else (match ops[j]? with | some o' => onto o' i | none => false))) && x.dst != some d)
/-- An early store goes into a box that was made here, or by a slot that is not written here, and no other one goes there; what turns boxes has no guard. -/
def okTurn (is : List Ins) (i : Nat) (x : Ins) : Bool :=
  match x.op with
  | .alloc _ => x.guard.isNone && x.dst.isSome
  | .store _ (.t d) _ => x.guard.isNone && x.dst.isNone && (((is.take i).any fun y => (match y.op with | .alloc _ => true | _ => false) && y.dst == some d) || is.all fun y => y.dst != some d) &&
      is.zipIdx.all fun (y, j) => i == j || (match y.op with | .store _ (.t d') _ => d' != d | _ => true)
  | .store _ _ _ => false
  | _ => true
/-- Does a place wait for another one, if by way of others? -/
def reach (ops : List Oper) : Nat → Nat → Nat → Bool
  | 0, _, _ => false
  | k + 1, j, i => match ops[j]? with
    | some o => onto o i || o.after.toList.any fun e => Region.binds .any e && reach ops k e.on i
    | none => false
def okDraw (ops : List Oper) (is late : List Ins) : Bool :=
  (is.zipIdx.all fun (x, i) => match ops[i]? with
    | some o => okDraw1 ops is i o x && okTurn is i x && o.after.toList.all fun e => !Region.binds .any e || Nat.blt e.on i
    | none => false) &&
  late.zipIdx.all fun (_, q) => (match ops[is.length + q]? with
    | some o => o.after.toList.all fun e => !Region.binds .any e || Nat.blt e.on (is.length + q)
    | none => false) && (List.range (is.length + q)).all fun i => reach ops ops.length (is.length + q) i

def okC (P : Program) (N : Nat) : Code → C → Bool
  | .skip, .skip => true
  | .region _ ops draw, .reg is => !draw && okInss P N ops.toList ops.toList is
  | .region _ ops draw, .drw is late => draw && okInss P N ops.toList ops.toList (is ++ late) && okDraw ops.toList is late
  | .seq a b, .seq a' b' => okC P N a a' && okC P N b b'
  | .cond c a b, .cond c' a' b' => okA c c' && okC P N a a' && okC P N b b'
  | .block id b, .blk id' b' => id == id' && okC P N b b'
  | .loop b, .loop _ b' => okC P N b b'
  | .exit id, .exit id' => id == id'
  | .ret, .ret => true
  | .rangeFunc g ps as bd, .rng _ g' ps' as' bd' => okA g g' && ps.toList == ps' && (ps'.all fun t => Nat.blt t N) && okC P N as as' && okC P N bd bd'
  | _, _ => false

def okRV (P : Program) : List ResultVar → List RV → Bool
  | [], [] => true
  | .tmp t :: r, .tmp t' :: r' => t == t' && okRV P r r'
  | .cell t ty :: r, .cell t' sz isAgg :: r' => t == t' && tySize P ty == some sz && tyAgg P ty == some isAgg && okRV P r r'
  | _, _ => false
def okFn (P : Program) (fn : Func) (f : Fn) : Bool :=
  (match fn.body with
   | some c => okC P fn.ntmps c f.code
   | none => false) && okRV P fn.results.toList f.results && Nat.ble f.params fn.ntmps && !(fn.name == "runtime.NumGoroutine")

end Go.Evl
