/-
  A value semantics for the program's code, part 1: values by content (a slice is the list of its elements), and when a machine value stands for one of them.
  Conditions: none; this text holds definitions and lemmas of their own.
-/
import Derived.OrdersIn
import Derived.TacticsIn
import Derived.Laws.Entries
import Derived.Laws.Cells
import Derived.Laws.Tables
import Derived.Laws.Slices
import Derived.Laws.AppendOwn
import Derived.Maps.AppendAt
import Derived.Deep.MidRow
import Derived.Great.BuildSlice
import Derived.Below
namespace Go.Evl
open Go

/-- Kinds of references into an arena: a map; a slice of a row that turns, by the cells of its elements; a place in an element of such a row. -/
inductive Rk where
  | mp (a : Nat)
  | sl (a sz : Nat)
  | pt (a sz off : Nat)
def Rk.same : Rk → Rk → Bool
  | .mp a, .mp b => Nat.beq a b
  | .sl a s, .sl b t => Nat.beq a b && Nat.beq s t
  | .pt a s o, .pt b t q => Nat.beq a b && (Nat.beq s t && Nat.beq o q)
  | _, _ => false
theorem Rk.same_eq : ∀ {x y : Rk}, x.same y = true → x = y
  | .mp a, y, h => by
    cases y <;> simp [Rk.same] at h
    rw [h]
  | .sl a s, y, h => by
    cases y <;> simp [Rk.same] at h
    rw [h.1, h.2]
  | .pt a s o, y, h => by
    cases y <;> simp [Rk.same] at h
    rw [h.1, h.2.1, h.2.2]
theorem Rk.same_refl (x : Rk) : x.same x = true := by
  cases x <;> simp [Rk.same]
mutual
/-- Kinds of contents. -/
inductive Ty where
  | int (k : IntKind)
  | bool
  | str
  | sl (t : Ty)
  | agg (ts : Tys)
  | tup (ts : Tys)
  | ptr (ts : Tys) (off : Nat)
  | clo (f : FuncId) (ts : Tys)
  | lit (n : Nat)
  | ref (r : Rk)
inductive Tys where
  | nil
  | cons (t : Ty) (ts : Tys)
end
mutual
/-- What a content of a kind is made of. -/
def Ty.D : Ty → Type
  | .int _ => Int
  | .bool => Bool
  | .str => ByteArray
  | .sl t => List t.D
  | .agg ts => ts.D
  | .tup ts => ts.D
  | .ptr ts _ => ts.D
  | .clo _ ts => ts.D
  | .lit _ => Unit
  | .ref _ => Int × Int × Int
def Tys.D : Tys → Type
  | .nil => Unit
  | .cons t ts => t.D × ts.D
end

/-- A value by its content. -/
inductive V where
  | int (k : IntKind) (n : Int)
  | bool (b : Bool)
  | str (s : ByteArray)
  | agg (cs : List V)
  | tup (vs : List V)
  | sl (full : Bool) (t : Ty) (xs : List t.D)
  | ptr (cs : List V) (off : Nat)
  | clo (f : FuncId) (caps : List V)
  | lit (n : Nat)
  | ref (r : Rk) (k lo len : Int)
instance : Inhabited V := ⟨.lit 0⟩
/-- Literals: the nil pointer, the nil function, the nil interface, the nil map. -/
def litOf : Nat → Value
  | 0 => .pointer none
  | 1 => .nilFunc
  | 2 => .nilIface
  | _ => .map none

mutual
def Ty.enc : (t : Ty) → t.D → V
  | .int k, n => .int k n
  | .bool, b => .bool b
  | .str, s => .str s
  | .sl t, xs => .sl false t xs
  | .agg ts, d => .agg (ts.enc d)
  | .tup ts, d => .tup (ts.enc d)
  | .ptr ts off, d => .ptr (ts.enc d) off
  | .clo f ts, d => .clo f (ts.enc d)
  | .lit n, _ => .lit n
  | .ref r, d => .ref r d.1 d.2.1 d.2.2
def Tys.enc : (ts : Tys) → ts.D → List V
  | .nil, _ => []
  | .cons t ts, d => t.enc d.1 :: ts.enc d.2
end
mutual
def V.ty : V → Ty
  | .int k _ => .int k
  | .bool _ => .bool
  | .str _ => .str
  | .agg cs => .agg (tysL cs)
  | .tup cs => .tup (tysL cs)
  | .sl _ t _ => .sl t
  | .ptr cs off => .ptr (tysL cs) off
  | .clo f cs => .clo f (tysL cs)
  | .lit n => .lit n
  | .ref r _ _ _ => .ref r
def tysL : List V → Tys
  | [] => .nil
  | v :: r => .cons v.ty (tysL r)
end
mutual
def V.dat : (v : V) → v.ty.D
  | .int _ n => n
  | .bool b => b
  | .str s => s
  | .agg cs => datL cs
  | .tup cs => datL cs
  | .sl _ _ xs => xs
  | .ptr cs _ => datL cs
  | .clo _ cs => datL cs
  | .lit _ => ()
  | .ref _ k lo len => (k, lo, len)
def datL : (vs : List V) → (tysL vs).D
  | [] => ()
  | v :: r => (v.dat, datL r)
end
/-- The same content, with no claim that a slice has no room. -/
def V.norm (v : V) : V := v.ty.enc v.dat

def kindEq : IntKind → IntKind → Bool
  | .i8, .i8 | .i16, .i16 | .i32, .i32 | .i64, .i64 | .u8, .u8 | .u16, .u16 | .u32, .u32 | .u64, .u64 => true
  | _, _ => false
theorem kindEq_eq {k k' : IntKind} (h : kindEq k k' = true) : k = k' := by
  cases k <;> cases k' <;> first | rfl | (simp [kindEq] at h)
mutual
def Ty.same : Ty → Ty → Bool
  | .int k, .int k' => kindEq k k'
  | .bool, .bool => true
  | .str, .str => true
  | .sl t, .sl t' => t.same t'
  | .agg ts, .agg ts' => ts.same ts'
  | .tup ts, .tup ts' => ts.same ts'
  | .ptr ts o, .ptr ts' o' => ts.same ts' && o == o'
  | .clo f ts, .clo f' ts' => f == f' && ts.same ts'
  | .lit n, .lit n' => n == n'
  | .ref r, .ref r' => r.same r'
  | _, _ => false
def Tys.same : Tys → Tys → Bool
  | .nil, .nil => true
  | .cons t ts, .cons t' ts' => t.same t' && ts.same ts'
  | _, _ => false
end
mutual
theorem Ty.same_eq : ∀ {t t' : Ty}, t.same t' = true → t = t'
  | .int k, t', h => by
    cases t' <;> simp [Ty.same] at h
    rw [kindEq_eq h]
  | .bool, t', h => by cases t' <;> simp [Ty.same] at h ⊢
  | .str, t', h => by cases t' <;> simp [Ty.same] at h ⊢
  | .sl t, t', h => by
    cases t' <;> simp [Ty.same] at h
    rw [Ty.same_eq h]
  | .agg ts, t', h => by
    cases t' <;> simp [Ty.same] at h
    rw [Tys.same_eq h]
  | .tup ts, t', h => by
    cases t' <;> simp [Ty.same] at h
    rw [Tys.same_eq h]
  | .ptr ts o, t', h => by
    cases t' <;> simp [Ty.same] at h
    rw [Tys.same_eq h.1, h.2]
  | .clo f ts, t', h => by
    cases t' <;> simp [Ty.same] at h
    rw [Tys.same_eq h.2, h.1]
  | .lit n, t', h => by
    cases t' <;> simp [Ty.same] at h
    rw [h]
  | .ref r, t', h => by
    cases t' <;> simp [Ty.same] at h
    rw [Rk.same_eq h]
theorem Tys.same_eq : ∀ {t t' : Tys}, t.same t' = true → t = t'
  | .nil, t', h => by cases t' <;> simp [Tys.same] at h ⊢
  | .cons t ts, t', h => by
    cases t' <;> simp [Tys.same] at h
    rw [Ty.same_eq h.1, Tys.same_eq h.2]
end
def castL (t t' : Ty) (xs : List t.D) : Option (List t'.D) :=
  if h : t.same t' = true then some (Ty.same_eq h ▸ xs) else none
theorem castL_enc {t t' : Ty} {xs : List t.D} {ys : List t'.D} (h : castL t t' xs = some ys) : t = t' ∧ HEq xs ys := by
  unfold castL at h
  split at h
  · rename_i hs
    have e := Ty.same_eq hs
    subst e
    cases h
    exact ⟨rfl, HEq.rfl⟩
  · cases h
mutual
/-- A content, read as one of a kind. -/
def Ty.dec : (t : Ty) → V → Option t.D
  | .int k, v => match v with
    | .int k' n => bif kindEq k k' then some n else none
    | _ => none
  | .bool, v => match v with
    | .bool b => some b
    | _ => none
  | .str, v => match v with
    | .str b => some b
    | _ => none
  | .sl t, v => match v with
    | .sl _ t' xs => castL t' t xs
    | _ => none
  | .agg ts, v => match v with
    | .agg cs => ts.dec cs
    | _ => none
  | .tup ts, v => match v with
    | .tup cs => ts.dec cs
    | _ => none
  | .ptr ts off, v => match v with
    | .ptr cs off' => bif off == off' then ts.dec cs else none
    | _ => none
  | .clo f ts, v => match v with
    | .clo f' cs => bif f == f' then ts.dec cs else none
    | _ => none
  | .lit n, v => match v with
    | .lit n' => bif n == n' then some () else none
    | _ => none
  | .ref r, v => match v with
    | .ref r' k lo len => bif r.same r' then some (k, lo, len) else none
    | _ => none
def Tys.dec : (ts : Tys) → List V → Option ts.D
  | .nil, vs => match vs with
    | [] => some ()
    | _ => none
  | .cons t ts, vs => match vs with
    | v :: r => match t.dec v with
      | some d => match ts.dec r with
        | some ds => some (d, ds)
        | none => none
      | none => none
    | [] => none
end
def decL (t : Ty) : List V → Option (List t.D)
  | [] => some []
  | v :: r => match t.dec v with
    | some d => match decL t r with
      | some ds => some (d :: ds)
      | none => none
    | none => none
/-- How many cells a content of a kind has. -/
def Tys.len : Tys → Nat
  | .nil => 0
  | .cons _ ts => ts.len + 1
def Ty.csz : Ty → Nat
  | .agg ts => ts.len
  | _ => 1

/-- The cells of a value. -/
def V.cells : V → List V
  | .agg cs => cs
  | v => [v]

/-- A memory that is known: what is known of a cell stays true. -/
structure Mem where
  cells : Addr → Option Value
  refs : Nat → Int → Option (Nat × Nat) := fun _ _ => none
instance : CoeFun Mem (fun _ => Addr → Option Value) := ⟨Mem.cells⟩
/-- What a reference stands for: where the arena's part lies is known for good (its block; how many elements it has room for). -/
def RRef (M : Mem) : Rk → Int → Int → Int → Value → Prop
  | .mp a, k, _, _, v => (k < 0 ∧ v = .map none) ∨ ∃ b c, M.refs a k = some (b, c) ∧ v = .map (some b)
  | .sl a sz, k, lo, len, v => (k < 0 ∧ len = 0 ∧ v = .slice none 0 0) ∨ ∃ (b c n cap : Nat), M.refs a k = some (b, c) ∧ 0 ≤ lo ∧ len = (n : Int) ∧ n ≤ cap ∧ lo.toNat + cap ≤ c ∧ v = .slice (some ⟨b, lo.toNat * sz, none⟩) n cap
  | .pt a sz off, k, lo, _, v => ∃ b c, M.refs a k = some (b, c) ∧ 0 ≤ lo ∧ v = .pointer (some ⟨b, lo.toNat * sz + off, none⟩)

/-- No value in a cell is made of cells. -/
def single (u : Value) : Prop := u.cells = #[u] ∧ u.oneCell' = true

/-- The elements of a row lie from an address on, each with 'sz' cells. -/
def Laid (M : Mem) (ad : Addr) (sz : Nat) (us : List Value) : Prop :=
  ∀ (i : Nat) (u : Value), us[i]? = some u → u.cells.size = sz ∧ (∀ c ∈ u.cells.toList, single c) ∧ ∀ j, j < sz → M (ad.add (i * sz + j)) = u.cells[j]?

mutual
/-- 'v' stands for a content of a kind, where the known memory is 'M'. -/
def RT (M : Mem) : (t : Ty) → t.D → Value → Prop
  | .int k, n, v => v = .int k n
  | .bool, b, v => v = .bool b
  | .str, s, v => v = .string s
  | .sl t, xs, v => ∃ a cap, v = .slice a (List.length xs) cap ∧ List.length xs ≤ cap ∧
      (xs = [] ∨ ∃ (ad : Addr) (sz : Nat) (us : List Value), a = some ad ∧ 0 < sz ∧ (us.length = List.length xs ∧ ∀ (i : Nat) (x : t.D) (u : Value), GetElem?.getElem? (coll := List t.D) xs i = some x → us[i]? = some u → RT M t x u) ∧ Laid M ad sz us)
  | .agg ts, d, v => ∃ us, v = .agg us.toArray ∧ RTs M ts d us ∧ ∀ u ∈ us, single u
  | .tup ts, d, v => ∃ us, v = .tuple us.toArray ∧ RTs M ts d us
  | .ptr ts off, d, v => ∃ (ad : Addr) (us : List Value), v = .pointer (some (ad.add off)) ∧ RTs M ts d us ∧ ∀ j u, us[j]? = some u → M (ad.add j) = some u ∧ single u
  | .clo f ts, d, v => ∃ us, v = .func (.func f) #[] us.toArray ∧ RTs M ts d us
  | .lit n, _, v => v = litOf n
  | .ref r, d, v => RRef M r d.1 d.2.1 d.2.2 v
def RTs (M : Mem) : (ts : Tys) → ts.D → List Value → Prop
  | .nil, _, us => us = []
  | .cons t ts, d, us => ∃ u us', us = u :: us' ∧ RT M t d.1 u ∧ RTs M ts d.2 us'
end
mutual
/-- 'v' stands for the content 'x', where the known memory is 'M'. -/
def R (M : Mem) : V → Value → Prop
  | .int k n, v => v = .int k n
  | .bool b, v => v = .bool b
  | .str s, v => v = .string s
  | .agg cs, v => ∃ us, v = .agg us.toArray ∧ RL M cs us ∧ ∀ u ∈ us, single u
  | .tup vs, v => ∃ us, v = .tuple us.toArray ∧ RL M vs us
  | .sl full t xs, v => RT M (.sl t) xs v ∧ (full = true → ∃ a, v = .slice a xs.length xs.length)
  | .ptr cs off, v => ∃ (ad : Addr) (us : List Value), v = .pointer (some (ad.add off)) ∧ RL M cs us ∧ ∀ j u, us[j]? = some u → M (ad.add j) = some u ∧ single u
  | .clo f caps, v => ∃ us, v = .func (.func f) #[] us.toArray ∧ RL M caps us
  | .lit n, v => v = litOf n
  | .ref r k lo len, v => RRef M r k lo len v
def RL (M : Mem) : List V → List Value → Prop
  | [], us => us = []
  | x :: xs, us => ∃ u us', us = u :: us' ∧ R M x u ∧ RL M xs us'
end
theorem single_lit (n : Nat) : single (litOf n) := by
  unfold litOf
  split <;> exact ⟨rfl, rfl⟩

/-- What the one memory knows the other one knows, too. -/
structure Sub (M M' : Mem) : Prop where
  cell : ∀ a v, M a = some v → M' a = some v
  ref : ∀ a k x, M.refs a k = some x → M'.refs a k = some x
instance {M M' : Mem} : CoeFun (Sub M M') (fun _ => ∀ a v, M a = some v → M' a = some v) := ⟨Sub.cell⟩
theorem Sub.refl (M : Mem) : Sub M M := ⟨fun _ _ h => h, fun _ _ _ h => h⟩
theorem Sub.trans {M M' M'' : Mem} (h : Sub M M') (k : Sub M' M'') : Sub M M'' := ⟨fun a v e => k a v (h a v e), fun a i x e => k.ref a i x (h.ref a i x e)⟩
theorem RRef.sub {M M' : Mem} (hs : Sub M M') : ∀ {r : Rk} {k lo len : Int} {v : Value}, RRef M r k lo len v → RRef M' r k lo len v
  | .mp a, k, _, _, v, h => by
    rcases h with h | ⟨b, c, h1, h2⟩
    · exact .inl h
    · exact .inr ⟨b, c, hs.ref _ _ _ h1, h2⟩
  | .sl a sz, k, lo, len, v, h => by
    rcases h with h | ⟨b, c, n, cap, h1, h2⟩
    · exact .inl h
    · exact .inr ⟨b, c, n, cap, hs.ref _ _ _ h1, h2⟩
  | .pt a sz off, k, lo, _, v, h => by
    obtain ⟨b, c, h1, h2⟩ := h
    exact ⟨b, c, hs.ref _ _ _ h1, h2⟩
theorem RRef.single {M : Mem} : ∀ {r : Rk} {k lo len : Int} {v : Value}, RRef M r k lo len v → single v
  | .mp a, k, _, _, v, h => by
    rcases h with ⟨_, rfl⟩ | ⟨b, c, _, rfl⟩ <;> exact ⟨rfl, rfl⟩
  | .sl a sz, k, lo, len, v, h => by
    rcases h with ⟨_, _, rfl⟩ | ⟨b, c, n, cap, _, _, _, _, _, rfl⟩ <;> exact ⟨rfl, rfl⟩
  | .pt a sz off, k, lo, _, v, h => by
    obtain ⟨b, c, _, _, rfl⟩ := h
    exact ⟨rfl, rfl⟩

theorem cells_get (u : Value) (j : Nat) (h : j < u.cells.size) : ∃ c, u.cells[j]? = some c := ⟨u.cells[j], Array.getElem?_eq_getElem h⟩

theorem Laid.sub {M M' : Mem} (hs : Sub M M') {ad : Addr} {sz : Nat} {us : List Value} (h : Laid M ad sz us) : Laid M' ad sz us := fun i u hu => by
  obtain ⟨h1, h3, h2⟩ := h i u hu
  refine ⟨h1, h3, fun j hj => ?_⟩
  obtain ⟨c, hc⟩ := cells_get u j (by omega)
  rw [hc]
  exact hs _ _ ((h2 j hj).trans hc)

theorem RT_agg {M : Mem} {ts : Tys} {d : (Ty.agg ts).D} {v : Value} : RT M (.agg ts) d v ↔ (∃ us : List Value, v = .agg us.toArray ∧ RTs M ts d us ∧ ∀ u ∈ us, single u) := Iff.rfl
theorem RT_tup {M : Mem} {ts : Tys} {d : (Ty.tup ts).D} {v : Value} : RT M (.tup ts) d v ↔ (∃ us : List Value, v = .tuple us.toArray ∧ RTs M ts d us) := Iff.rfl
theorem RT_ptr {M : Mem} {ts : Tys} {off : Nat} {d : (Ty.ptr ts off).D} {v : Value} : RT M (.ptr ts off) d v ↔ (∃ (ad : Addr) (us : List Value), v = .pointer (some (ad.add off)) ∧ RTs M ts d us ∧ ∀ j u, us[j]? = some u → M (ad.add j) = some u ∧ single u) := Iff.rfl
theorem RT_clo {M : Mem} {ts : Tys} {f : FuncId} {d : (Ty.clo f ts).D} {v : Value} : RT M (.clo f ts) d v ↔ (∃ us : List Value, v = .func (.func f) #[] us.toArray ∧ RTs M ts d us) := Iff.rfl
theorem RT_sl {M : Mem} {t : Ty} {xs : (Ty.sl t).D} {v : Value} : RT M (.sl t) xs v ↔ (∃ a cap, v = .slice a (List.length (α := t.D) xs) cap ∧ List.length (α := t.D) xs ≤ cap ∧
      ((xs : List t.D) = [] ∨ ∃ (ad : Addr) (sz : Nat) (us : List Value), a = some ad ∧ 0 < sz ∧ (us.length = List.length (α := t.D) xs ∧ ∀ (i : Nat) (x : t.D) (u : Value), GetElem?.getElem? (coll := List t.D) xs i = some x → us[i]? = some u → RT M t x u) ∧ Laid M ad sz us)) := Iff.rfl
theorem RTs_nil {M : Mem} {d : Tys.nil.D} {us : List Value} : RTs M .nil d us ↔ (us = []) := Iff.rfl
theorem RTs_cons {M : Mem} {t : Ty} {ts : Tys} {d : (Tys.cons t ts).D} {us : List Value} : RTs M (.cons t ts) d us ↔ (∃ u us', us = u :: us' ∧ RT M t (Prod.fst (α := t.D) (β := ts.D) d) u ∧ RTs M ts (Prod.snd (α := t.D) (β := ts.D) d) us') := Iff.rfl
mutual
theorem RT.sub {M M' : Mem} (hs : Sub M M') : ∀ (t : Ty) (x : t.D) (v : Value), RT M t x v → RT M' t x v
  | .int _, _, _, h => h
  | .bool, _, _, h => h
  | .str, _, _, h => h
  | .agg ts, d, v, h => by
    obtain ⟨us, e, hr, h1⟩ := RT_agg.1 h
    exact RT_agg.2 ⟨us, e, RTs.sub hs ts d us hr, h1⟩
  | .tup ts, d, v, h => by
    obtain ⟨us, e, hr⟩ := RT_tup.1 h
    exact RT_tup.2 ⟨us, e, RTs.sub hs ts d us hr⟩
  | .sl t, xs, v, h => by
    obtain ⟨a, cap, e, h1, h3⟩ := RT_sl.1 h
    refine RT_sl.2 ⟨a, cap, e, h1, ?_⟩
    rcases h3 with h3 | ⟨ad, sz, us, ha, hz, hr, hl⟩
    · exact .inl h3
    · exact .inr ⟨ad, sz, us, ha, hz, ⟨hr.1, fun i x u hx hu => RT.sub hs t x u (hr.2 i x u hx hu)⟩, hl.sub hs⟩
  | .ptr ts off, d, v, h => by
    obtain ⟨ad, us, e, hr, hl⟩ := RT_ptr.1 h
    exact RT_ptr.2 ⟨ad, us, e, RTs.sub hs ts d us hr, fun j u hu => ⟨hs _ _ (hl j u hu).1, (hl j u hu).2⟩⟩
  | .clo f ts, d, v, h => by
    obtain ⟨us, e, hr⟩ := RT_clo.1 h
    exact RT_clo.2 ⟨us, e, RTs.sub hs ts d us hr⟩
  | .lit _, _, _, h => h
  | .ref _, _, _, h => RRef.sub hs h
theorem RTs.sub {M M' : Mem} (hs : Sub M M') : ∀ (ts : Tys) (d : ts.D) (us : List Value), RTs M ts d us → RTs M' ts d us
  | .nil, _, _, h => h
  | .cons t ts, d, us, h => by
    obtain ⟨u, us', e, h1, h2⟩ := RTs_cons.1 h
    exact RTs_cons.2 ⟨u, us', e, RT.sub hs t _ u h1, RTs.sub hs ts _ us' h2⟩
end
mutual
theorem R.sub {M M' : Mem} (hs : Sub M M') : ∀ (x : V) (v : Value), R M x v → R M' x v
  | .int _ _, _, h => by rw [R] at h ⊢; exact h
  | .bool _, _, h => by rw [R] at h ⊢; exact h
  | .str _, _, h => by rw [R] at h ⊢; exact h
  | .agg cs, v, h => by
    rw [R] at h ⊢
    obtain ⟨us, e, hr, h1⟩ := h
    exact ⟨us, e, RL.sub hs cs us hr, h1⟩
  | .tup vs, v, h => by
    rw [R] at h ⊢
    obtain ⟨us, e, hr⟩ := h
    exact ⟨us, e, RL.sub hs vs us hr⟩
  | .sl full t xs, v, h => by
    rw [R] at h ⊢
    exact ⟨RT.sub hs _ _ _ h.1, h.2⟩
  | .ptr cs off, v, h => by
    rw [R] at h ⊢
    obtain ⟨ad, us, e, hr, hl⟩ := h
    exact ⟨ad, us, e, RL.sub hs cs us hr, fun j u hu => ⟨hs _ _ (hl j u hu).1, (hl j u hu).2⟩⟩
  | .clo f caps, v, h => by
    rw [R] at h ⊢
    obtain ⟨us, e, hr⟩ := h
    exact ⟨us, e, RL.sub hs caps us hr⟩
  | .lit _, _, h => by rw [R] at h ⊢; exact h
  | .ref _ _ _ _, _, h => by rw [R] at h ⊢; exact RRef.sub hs h
theorem RL.sub {M M' : Mem} (hs : Sub M M') : ∀ (xs : List V) (us : List Value), RL M xs us → RL M' xs us
  | [], _, h => by rw [RL] at h ⊢; exact h
  | x :: xs, us, h => by
    rw [RL] at h ⊢
    obtain ⟨u, us', e, h1, h2⟩ := h
    exact ⟨u, us', e, R.sub hs x u h1, RL.sub hs xs us' h2⟩
end

theorem RL.length {M : Mem} : ∀ {xs : List V} {us : List Value}, RL M xs us → us.length = xs.length
  | [], _, h => by simp [RL] at h; simp [h]
  | x :: xs, us, h => by
    simp only [RL] at h
    obtain ⟨u, us', rfl, _, h2⟩ := h
    simp [RL.length h2]

theorem RL.get {M : Mem} : ∀ {xs : List V} {us : List Value}, RL M xs us → ∀ {i : Nat} {x : V}, xs[i]? = some x → ∃ u, us[i]? = some u ∧ R M x u
  | [], _, _, i, x, hx => by simp at hx
  | y :: xs, us, h, i, x, hx => by
    simp only [RL] at h
    obtain ⟨u, us', rfl, h1, h2⟩ := h
    cases i with
    | zero => simp at hx; subst hx; exact ⟨u, rfl, h1⟩
    | succ i => simpa using RL.get h2 (by simpa using hx)

theorem RL.get' {M : Mem} {xs : List V} {us : List Value} (h : RL M xs us) {i : Nat} {u : Value} (hu : us[i]? = some u) : ∃ x, xs[i]? = some x ∧ R M x u := by
  have hi : i < us.length := (List.getElem?_eq_some_iff.1 hu).1
  have hx : xs[i]? = some (xs[i]'(by rw [← h.length]; exact hi)) := List.getElem?_eq_getElem _
  obtain ⟨u', hu', hr⟩ := h.get hx
  rw [hu] at hu'
  cases hu'
  exact ⟨_, hx, hr⟩

theorem RL.of_get {M : Mem} : ∀ {xs : List V} {us : List Value}, us.length = xs.length → (∀ (i : Nat) (x : V) (u : Value), xs[i]? = some x → us[i]? = some u → R M x u) → RL M xs us
  | [], us, hl, _ => by simp [RL]; exact List.eq_nil_of_length_eq_zero hl
  | x :: xs, [], hl, _ => by simp at hl
  | x :: xs, u :: us, hl, h => by
    rw [RL]
    exact ⟨u, us, rfl, h 0 x u rfl rfl, RL.of_get (by simpa using hl) (fun i y v hy hv => h (i + 1) y v (by simpa using hy) (by simpa using hv))⟩

theorem RL.append {M : Mem} {xs ys : List V} {us vs : List Value} (h : RL M xs us) (k : RL M ys vs) : RL M (xs ++ ys) (us ++ vs) := by
  refine RL.of_get (by simp [h.length, k.length]) ?_
  intro i x u hx hu
  rcases Nat.lt_or_ge i xs.length with hi | hi
  · rw [List.getElem?_append_left hi] at hx
    rw [List.getElem?_append_left (by rw [h.length]; exact hi)] at hu
    obtain ⟨u', hu', hr⟩ := h.get hx
    rw [hu] at hu'; cases hu'; exact hr
  · rw [List.getElem?_append_right hi] at hx
    rw [List.getElem?_append_right (by rw [h.length]; exact hi), h.length] at hu
    obtain ⟨u', hu', hr⟩ := k.get hx
    rw [hu] at hu'; cases hu'; exact hr

theorem RL.take {M : Mem} {xs : List V} {us : List Value} (h : RL M xs us) (n : Nat) : RL M (xs.take n) (us.take n) := by
  refine RL.of_get (by simp [h.length]) ?_
  intro i x u hx hu
  rw [List.getElem?_take] at hx hu
  split at hx
  · rename_i hi
    rw [if_pos hi] at hu
    obtain ⟨u', hu', hr⟩ := h.get hx
    rw [hu] at hu'; cases hu'; exact hr
  · cases hx

theorem RL.drop {M : Mem} {xs : List V} {us : List Value} (h : RL M xs us) (n : Nat) : RL M (xs.drop n) (us.drop n) := by
  refine RL.of_get (by simp [h.length]) ?_
  intro i x u hx hu
  rw [List.getElem?_drop] at hx hu
  obtain ⟨u', hu', hr⟩ := h.get hx
  rw [hu] at hu'; cases hu'; exact hr

theorem R_int_iff {M : Mem} {k : IntKind} {n : Int} {v : Value} : R M (.int k n) v ↔ v = .int k n := by rw [R]
theorem R_bool_iff {M : Mem} {n : Bool} {v : Value} : R M (.bool n) v ↔ v = .bool n := by rw [R]
theorem R_str_iff {M : Mem} {n : ByteArray} {v : Value} : R M (.str n) v ↔ v = .string n := by rw [R]
theorem R_lit {M : Mem} {n : Nat} {v : Value} : R M (.lit n) v ↔ v = litOf n := by rw [R]
theorem R_ref {M : Mem} {r : Rk} {k lo len : Int} {v : Value} : R M (.ref r k lo len) v ↔ RRef M r k lo len v := by rw [R]
theorem R_agg {M : Mem} {cs : List V} {v : Value} : R M (.agg cs) v ↔ ∃ us : List Value, v = .agg us.toArray ∧ RL M cs us ∧ ∀ u ∈ us, single u := by rw [R]
theorem R_tup {M : Mem} {cs : List V} {v : Value} : R M (.tup cs) v ↔ ∃ us : List Value, v = .tuple us.toArray ∧ RL M cs us := by rw [R]
theorem R_ptr {M : Mem} {cs : List V} {off : Nat} {v : Value} : R M (.ptr cs off) v ↔ ∃ (ad : Addr) (us : List Value), v = .pointer (some (ad.add off)) ∧ RL M cs us ∧ ∀ j u, us[j]? = some u → M (ad.add j) = some u ∧ single u := by rw [R]
theorem R_clo {M : Mem} {f : FuncId} {cs : List V} {v : Value} : R M (.clo f cs) v ↔ ∃ us : List Value, v = .func (.func f) #[] us.toArray ∧ RL M cs us := by rw [R]
theorem RL_nil {M : Mem} {us : List Value} : RL M [] us ↔ us = [] := by rw [RL]
theorem RL_cons {M : Mem} {x : V} {xs : List V} {us : List Value} : RL M (x :: xs) us ↔ ∃ u us', us = u :: us' ∧ R M x u ∧ RL M xs us' := by rw [RL]
theorem R_sl0 {M : Mem} {full : Bool} {t : Ty} {xs : List t.D} {v : Value} : R M (.sl full t xs) v ↔ RT M (.sl t) xs v ∧ (full = true → ∃ a, v = .slice a xs.length xs.length) := by rw [R]
mutual
theorem R_enc {M : Mem} : ∀ (t : Ty) (x : t.D) (v : Value), R M (t.enc x) v ↔ RT M t x v
  | .int k, x, v => R_int_iff
  | .bool, x, v => R_bool_iff
  | .str, x, v => R_str_iff
  | .agg ts, d, v => R_agg.trans (by
      constructor
      · rintro ⟨us, e, h, g⟩; exact RT_agg.2 ⟨us, e, (RL_enc ts d us).1 h, g⟩
      · intro h; obtain ⟨us, e, h, g⟩ := RT_agg.1 h; exact ⟨us, e, (RL_enc ts d us).2 h, g⟩)
  | .tup ts, d, v => R_tup.trans (by
      constructor
      · rintro ⟨us, e, h⟩; exact RT_tup.2 ⟨us, e, (RL_enc ts d us).1 h⟩
      · intro h; obtain ⟨us, e, h⟩ := RT_tup.1 h; exact ⟨us, e, (RL_enc ts d us).2 h⟩)
  | .sl t, xs, v => by
    constructor
    · intro h
      exact (R_sl0.1 h).1
    · intro h
      exact R_sl0.2 ⟨h, fun hf => by cases hf⟩
  | .ptr ts off, d, v => R_ptr.trans (by
      constructor
      · rintro ⟨ad, us, e, h, g⟩; exact RT_ptr.2 ⟨ad, us, e, (RL_enc ts d us).1 h, g⟩
      · intro h; obtain ⟨ad, us, e, h, g⟩ := RT_ptr.1 h; exact ⟨ad, us, e, (RL_enc ts d us).2 h, g⟩)
  | .clo f ts, d, v => R_clo.trans (by
      constructor
      · rintro ⟨us, e, h⟩; exact RT_clo.2 ⟨us, e, (RL_enc ts d us).1 h⟩
      · intro h; obtain ⟨us, e, h⟩ := RT_clo.1 h; exact ⟨us, e, (RL_enc ts d us).2 h⟩)
  | .lit n, _, v => R_lit
  | .ref r, d, v => R_ref
theorem RL_enc {M : Mem} : ∀ (ts : Tys) (d : ts.D) (us : List Value), RL M (ts.enc d) us ↔ RTs M ts d us
  | .nil, _, us => RL_nil
  | .cons t ts, d, us => RL_cons.trans (by
      constructor
      · rintro ⟨u, us', e, h, g⟩; exact RTs_cons.2 ⟨u, us', e, (R_enc t _ u).1 h, (RL_enc ts _ us').1 g⟩
      · intro h; obtain ⟨u, us', e, h, g⟩ := RTs_cons.1 h; exact ⟨u, us', e, (R_enc t _ u).2 h, (RL_enc ts _ us').2 g⟩)
end
/-- A slice by its elements' contents. -/
def RSl (M : Mem) (full : Bool) (xs : List V) (v : Value) : Prop := ∃ a cap, v = .slice a xs.length cap ∧ xs.length ≤ cap ∧ (full = true → cap = xs.length) ∧
  (xs = [] ∨ ∃ (ad : Addr) (sz : Nat) (us : List Value), a = some ad ∧ 0 < sz ∧ RL M xs us ∧ Laid M ad sz us)
theorem RL_map {M : Mem} {t : Ty} {xs : List t.D} {us : List Value} : RL M (xs.map t.enc) us ↔ (us.length = xs.length ∧ ∀ (i : Nat) (x : t.D) (u : Value), xs[i]? = some x → us[i]? = some u → RT M t x u) := by
  constructor
  · intro h
    refine ⟨by simpa using h.length, fun i x u hx hu => ?_⟩
    obtain ⟨u', h1, h2⟩ := h.get (i := i) (x := t.enc x) (by rw [List.getElem?_map, hx]; rfl)
    rw [hu] at h1
    cases h1
    exact (R_enc t x u).1 h2
  · intro h
    refine RL.of_get (by simpa using h.1) (fun i x u hx hu => ?_)
    rw [List.getElem?_map] at hx
    obtain ⟨y, hy, rfl⟩ := Option.map_eq_some_iff.1 hx
    exact (R_enc t y u).2 (h.2 i y u hy hu)
theorem R_sl {M : Mem} {full : Bool} {t : Ty} {xs : List t.D} {v : Value} : R M (.sl full t xs) v ↔ RSl M full (xs.map t.enc) v := by
  refine R_sl0.trans ?_
  unfold RSl
  simp only [List.length_map, List.map_eq_nil_iff]
  constructor
  · rintro ⟨h, h3⟩
    obtain ⟨a, cap, rfl, h1, h2⟩ := RT_sl.1 h
    refine ⟨a, cap, rfl, h1, fun hf => ?_, ?_⟩
    · obtain ⟨a', h⟩ := h3 hf
      cases h; rfl
    · rcases h2 with h2 | ⟨ad, sz, us, q1, q2, q3, q4⟩
      · exact .inl h2
      · exact .inr ⟨ad, sz, us, q1, q2, RL_map.2 q3, q4⟩
  · rintro ⟨a, cap, rfl, h1, h2, h3⟩
    refine ⟨RT_sl.2 ⟨a, cap, rfl, h1, ?_⟩, fun hf => ?_⟩
    · rcases h3 with h3 | ⟨ad, sz, us, q1, q2, q3, q4⟩
      · exact .inl h3
      · exact .inr ⟨ad, sz, us, q1, q2, RL_map.1 q3, q4⟩
    · rw [h2 hf]; exact ⟨a, rfl⟩
mutual
theorem R_norm {M : Mem} : ∀ (x : V) (v : Value), R M x v → RT M x.ty x.dat v
  | .int _ _, _, h => R_int_iff.1 h
  | .bool _, _, h => R_bool_iff.1 h
  | .str _, _, h => R_str_iff.1 h
  | .agg cs, v, h => by
    obtain ⟨us, e, hr, h1⟩ := R_agg.1 h
    exact RT_agg.2 ⟨us, e, RL_norm cs us hr, h1⟩
  | .tup vs, v, h => by
    obtain ⟨us, e, hr⟩ := R_tup.1 h
    exact RT_tup.2 ⟨us, e, RL_norm vs us hr⟩
  | .sl full t xs, v, h => (R_sl0.1 h).1
  | .ptr cs off, v, h => by
    obtain ⟨ad, us, e, hr, hl⟩ := R_ptr.1 h
    exact RT_ptr.2 ⟨ad, us, e, RL_norm cs us hr, hl⟩
  | .clo f caps, v, h => by
    obtain ⟨us, e, hr⟩ := R_clo.1 h
    exact RT_clo.2 ⟨us, e, RL_norm caps us hr⟩
  | .lit _, _, h => R_lit.1 h
  | .ref _ _ _ _, _, h => R_ref.1 h
theorem RL_norm {M : Mem} : ∀ (xs : List V) (us : List Value), RL M xs us → RTs M (tysL xs) (datL xs) us
  | [], us, h => RL_nil.1 h
  | x :: xs, us, h => by
    obtain ⟨u, us', e, h1, h2⟩ := RL_cons.1 h
    exact RTs_cons.2 ⟨u, us', e, R_norm x u h1, RL_norm xs us' h2⟩
end
theorem R.norm {M : Mem} {x : V} {v : Value} (h : R M x v) : R M x.norm v := (R_enc _ _ _).2 (R_norm x v h)
mutual
theorem dec_norm : ∀ (t : Ty) (x : V) (d : t.D), t.dec x = some d → x.norm = t.enc d
  | .int k, x, d, h => by
    cases x with
    | int k' n =>
      have h : (bif kindEq k k' then some n else none) = some d := h
      cases hk : kindEq k k' with
      | false => rw [hk] at h; cases h
      | true =>
        rw [hk] at h
        cases h
        rw [kindEq_eq hk]; rfl
    | _ => exact nomatch (show (none : Option _) = some d from h)
  | .bool, x, d, h => by
    cases x with
    | bool b =>
      have h : some b = some d := h
      cases h; rfl
    | _ => exact nomatch (show (none : Option _) = some d from h)
  | .str, x, d, h => by
    cases x with
    | str b =>
      have h : some b = some d := h
      cases h; rfl
    | _ => exact nomatch (show (none : Option _) = some d from h)
  | .sl t, x, d, h => by
    cases x with
    | sl f t' xs =>
      obtain ⟨e, h'⟩ := castL_enc (show castL t' t xs = some d from h)
      subst e
      rw [← eq_of_heq h']; rfl
    | _ => exact nomatch (show (none : Option _) = some d from h)
  | .agg ts, x, d, h => by
    cases x with
    | agg cs => exact congrArg V.agg (decs_norm ts cs d h)
    | _ => exact nomatch (show (none : Option _) = some d from h)
  | .tup ts, x, d, h => by
    cases x with
    | tup cs => exact congrArg V.tup (decs_norm ts cs d h)
    | _ => exact nomatch (show (none : Option _) = some d from h)
  | .ptr ts off, x, d, h => by
    cases x with
    | ptr cs off' =>
      have h2 : (bif off == off' then ts.dec cs else none) = some d := h
      clear h
      cases ho : off == off' with
      | false => rw [ho] at h2; cases h2
      | true =>
        rw [ho] at h2
        have h : ts.dec cs = some d := h2
        have ho : off = off' := by simpa using ho
        subst ho
        exact congrArg (V.ptr · off) (decs_norm ts cs d h)
    | _ => exact nomatch (show (none : Option _) = some d from h)
  | .clo f ts, x, d, h => by
    cases x with
    | clo f' cs =>
      have h2 : (bif f == f' then ts.dec cs else none) = some d := h
      clear h
      cases ho : f == f' with
      | false => rw [ho] at h2; cases h2
      | true =>
        rw [ho] at h2
        have h : ts.dec cs = some d := h2
        have ho : f = f' := by simpa using ho
        subst ho
        exact congrArg (V.clo f) (decs_norm ts cs d h)
    | _ => exact nomatch (show (none : Option _) = some d from h)
  | .lit n, x, d, h => by
    cases x with
    | lit n' =>
      have h : (bif n == n' then some () else none) = some d := h
      cases ho : n == n' with
      | false => rw [ho] at h; cases h
      | true =>
        have ho : n = n' := by simpa using ho
        subst ho
        rfl
    | _ => exact nomatch (show (none : Option _) = some d from h)
  | .ref r, x, d, h => by
    cases x with
    | ref r' k lo len =>
      have h2 : (bif r.same r' then some (k, lo, len) else none) = some d := h
      clear h
      cases ho : r.same r' with
      | false => rw [ho] at h2; cases h2
      | true =>
        rw [ho] at h2
        have h3 : (k, lo, len) = d := Option.some.inj h2
        rw [← Rk.same_eq ho, ← h3]
        rfl
    | _ => exact nomatch (show (none : Option _) = some d from h)
theorem decs_norm : ∀ (ts : Tys) (xs : List V) (d : ts.D), ts.dec xs = some d → (tysL xs).enc (datL xs) = ts.enc d
  | .nil, xs, d, h => by
    cases xs with
    | nil => rfl
    | cons x xs => exact nomatch (show (none : Option _) = some d from h)
  | .cons t ts, xs, d, h => by
    cases xs with
    | nil => exact nomatch (show (none : Option _) = some d from h)
    | cons x xs =>
      have h : (match t.dec x with
        | some d => match ts.dec xs with
          | some ds => some (d, ds)
          | none => none
        | none => none) = some d := h
      split at h
      · rename_i a ha
        split at h
        · rename_i b hb
          cases h
          have h1 := dec_norm t x a ha
          have h2 := decs_norm ts xs b hb
          show x.norm :: (tysL xs).enc (datL xs) = t.enc a :: ts.enc b
          rw [h1, h2]
        · cases h
      · cases h
end
theorem R.dec {M : Mem} {t : Ty} {x : V} {d : t.D} {v : Value} (h : R M x v) (hd : t.dec x = some d) : R M (t.enc d) v := by
  rw [← dec_norm t x d hd]; exact h.norm
theorem RL.norm {M : Mem} : ∀ {xs : List V} {us : List Value}, RL M xs us → RL M (xs.map V.norm) us
  | [], us, h => h
  | x :: xs, us, h => by
    rw [RL] at h
    obtain ⟨u, us', e, h1, h2⟩ := h
    rw [List.map_cons, RL]
    exact ⟨u, us', e, h1.norm, RL.norm h2⟩
theorem decL_norm {t : Ty} : ∀ {xs : List V} {ds : List t.D}, decL t xs = some ds → xs.map V.norm = ds.map t.enc
  | [], ds, h => by simp [decL] at h; subst h; rfl
  | x :: xs, ds, h => by
    rw [decL] at h
    split at h
    · rename_i a ha
      split at h
      · rename_i b hb
        cases h
        rw [List.map_cons, List.map_cons, dec_norm t x a ha, decL_norm hb]
      · cases h
    · cases h
theorem decL_len {t : Ty} {xs : List V} {ds : List t.D} (h : decL t xs = some ds) : ds.length = xs.length := by
  have := congrArg List.length (decL_norm h)
  simpa using this.symm
theorem RL.decL {M : Mem} {t : Ty} {xs : List V} {ds : List t.D} {us : List Value} (h : RL M xs us) (hd : decL t xs = some ds) : RL M (ds.map t.enc) us := by
  rw [← decL_norm hd]; exact h.norm
theorem Tys.enc_len : ∀ (ts : Tys) (d : ts.D), (ts.enc d).length = ts.len
  | .nil, _ => rfl
  | .cons t ts, d => by rw [Tys.enc, Tys.len, List.length_cons, Tys.enc_len ts d.2]
theorem Ty.enc_cells (t : Ty) (d : t.D) : (t.enc d).cells.length = t.csz := by
  cases t <;> first | rfl | exact Tys.enc_len _ _

/-- The tables that lie from the start: the number of the block, and its cells. -/
def laidB : Nat → Option (Array Value) := fun g => bif Nat.beq g 0 then some ((List.range 20).map fun i => Value.int .u64 ((10 ^ i : Nat) : Int)).toArray else none
/-- The tables lie there. -/
def Tabled (w : World) : Prop := ∀ g cs, laidB g = some cs → ∃ t fz, w.heap[g]? = some (.cells cs t fz)
theorem Tabled.kept {w w' : World} (h : Tabled w) (hb : ∀ k, k < w.heap.size → w'.heap[k]? = w.heap[k]?) : Tabled w' := fun g cs hg => by
  obtain ⟨t, fz, e⟩ := h g cs hg
  exact ⟨t, fz, (hb g (Array.getElem?_eq_some_iff.1 e).1).trans e⟩
/-- The world holds what the memory knows; nothing is known of blocks that are still to come. -/
structure Known (M : Mem) (w : World) : Prop where
  cell : ∀ a v, M a = some v → w.cell? a = some v
  old : ∀ a v, M a = some v → a.block < w.heap.size
  oldR : ∀ a k b c, M.refs a k = some (b, c) → b < w.heap.size
/-- .. and the tables lie there. -/
structure Ok (M : Mem) (w : World) : Prop extends Known M w where
  laid : Tabled w

end Go.Evl
