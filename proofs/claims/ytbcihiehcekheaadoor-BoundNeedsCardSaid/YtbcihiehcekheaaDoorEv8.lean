/-
  A value semantics for the program's code, part 8: the operations that turn nothing, all of them.
  Conditions: none; this text holds definitions and lemmas of their own.
-/
import Derived.Test.YtbcihiehcekheaaDoorEv7
import Derived.Lib.MinMax
import Derived.Laws.StructEq
namespace Go.Evl
open Go Go.RowKit
set_option linter.unusedVariables false
set_option linter.unusedSimpArgs false

section
variable {P : Program} {o : Oper} {a : Act} {w : World} {M : Mem} {G : Gh} {B : Nat} {cf : FuncId → List V → Option V} {rd : A → D} {bx : Nat → Option (List D)} {d : D}

theorem g_iaa (hm : Ok M w) {t e : TypeId} {len sz : Nat} {x i : A} {x' i' : Operand} {k : IntKind} {m : Int} (hop : o.op = .indexAddr t x' i') (h1 : okA x' x = true) (h2 : okA i' i = true) (h3 : P.underlying t = some (.array len e)) (h4 : tySize P e = some sz)
    (hr : Reads M G a rd (x.tmps ++ i.tmps)) (hi : rd i = .p (.int k m)) (hb : (std.le 0 m && std.lt m len) = true)
    (he : (match rd x with | .p (.ptr cs o) => some (.p (.ptr cs (o + m.toNat * sz))) | .mptr id o => some (.mptr id (o + m.toNat * sz)) | _ => none) = some d) : Gives P M G w d (execOp a.eval o) := by
  have hxv := opd h1 (hr.mono (fun t ht => by simp [ht]))
  have hiv := opd h2 (hr.mono (fun t ht => by simp [ht]))
  rw [hi] at hiv
  have hiv : a.eval i' = .int k m := RD_int hiv
  simp [std] at hb
  have hel : P.elem t = e := by simp [Program.elem, h3]
  have hal : P.arrayLen t = len := by simp [Program.arrayLen, h3]
  have hu2 : P.underlying t = some (.array (P.arrayLen t) (P.elem t)) := by rw [hel, hal]; exact h3
  have hf : ∀ ad, a.eval x' = .pointer (some ad) → (execOp a.eval o).run P w = .ok (.value (.pointer (some (ad.add (m.toNat * sz))))) w := by
    intro ad hv
    have hb1 : 0 ≤ m ∧ m < (P.arrayLen t : Int) := by rw [hal]; exact hb
    simp [execOp, hop, hv, hiv, run_indexAt_array w t ad k m hu2, hb1, hel, size_run h4]
  split at he
  · rename_i cs o' hx
    cases he
    rw [hx] at hxv
    have hxv : R M (.ptr cs o') (a.eval x') := hxv
    rw [R] at hxv
    obtain ⟨ad, us, hv, hrl, hs⟩ := hxv
    refine g_same hm (hf _ hv) ?_
    show R M (.ptr cs (o' + m.toNat * sz)) _
    rw [R]
    exact ⟨ad, us, by rw [add_add], hrl, hs⟩
  · rename_i id o' hx
    cases he
    rw [hx] at hxv
    obtain ⟨b, hb, hv⟩ := hxv
    refine g_same hm (hf _ hv) ⟨b, hb, by rw [add_plain']⟩
  · cases he

theorem g_idx (hm : Ok M w) {t e : TypeId} {len sz : Nat} {ag : Bool} {x i : A} {x' i' : Operand} {k : IntKind} {m : Int} {cs : List V} {v : V} (hop : o.op = .index t x' i') (h1 : okA x' x = true) (h2 : okA i' i = true) (h3 : P.underlying t = some (.array len e)) (h4 : tySize P e = some sz) (h5 : tyAgg P e = some ag)
    (hr : Reads M G a rd (x.tmps ++ i.tmps)) (hx : rd x = .p (.agg cs)) (hi : rd i = .p (.int k m)) (hb : (std.le 0 m && std.lt m len) = true) (he : partV cs (m.toNat * sz) sz ag = some v) : Gives P M G w (.p v) (execOp a.eval o) := by
  have hxv := opd h1 (hr.mono (fun t ht => by simp [ht]))
  rw [hx] at hxv
  have hxv : R M (.agg cs) (a.eval x') := hxv
  rw [R] at hxv
  obtain ⟨us, hv, hrl, hs⟩ := hxv
  have hiv := opd h2 (hr.mono (fun t ht => by simp [ht]))
  rw [hi] at hiv
  have hiv : a.eval i' = .int k m := RD_int hiv
  simp [std] at hb
  obtain ⟨u, hp, hru⟩ := part_run (P := P) h4 h5 hrl hs he w
  refine g_same hm (v := u) ?_ hru
  simp [execOp, hop, hv, hiv, Instr.index, run_underlying h3, asIntOf, hb, size_run h4, hp]

theorem g_sidx (hm : Ok M w) {t : TypeId} {x i : A} {x' i' : Operand} {k : IntKind} {m b : Int} {s : ByteArray} (hop : o.op = .index t x' i') (h1 : okA x' x = true) (h2 : okA i' i = true) (h3 : P.underlying t = some .string)
    (hr : Reads M G a rd (x.tmps ++ i.tmps)) (hx : rd x = .p (.str s)) (hi : rd i = .p (.int k m)) (he : std.sidx s m = some b) : Gives P M G w (.p (.int .u8 b)) (execOp a.eval o) := by
  have hxv := opd h1 (hr.mono (fun t ht => by simp [ht]))
  rw [hx] at hxv
  have hxv : a.eval x' = .string s := RD_str hxv
  have hiv := opd h2 (hr.mono (fun t ht => by simp [ht]))
  rw [hi] at hiv
  have hiv : a.eval i' = .int k m := RD_int hiv
  simp only [std] at he
  split at he
  · rename_i h0
    cases hc : s[m.toNat]? with
    | none => rw [hc] at he; cases he
    | some c =>
      rw [hc] at he
      simp at he
      subst he
      refine g_same hm (v := .int .u8 c.toNat) ?_ (show RD M G (.p _) _ from R_int' M _ _)
      simp [execOp, hop, hxv, hiv, Instr.index, run_underlying h3, asIntOf, h0, hc]
  · cases he

theorem g_ext (hm : Ok M w) {i : Nat} {x : A} {x' : Operand} {vs : List V} {v : V} (hop : o.op = .extract x' i) (h1 : okA x' x = true) (hr : Reads M G a rd x.tmps) (hx : rd x = .p (.tup vs)) (he : vs[i]? = some v) : Gives P M G w (.p v) (execOp a.eval o) := by
  have hxv := opd h1 hr
  rw [hx] at hxv
  have hxv : R M (.tup vs) (a.eval x') := hxv
  rw [R] at hxv
  obtain ⟨us, hv, hrl⟩ := hxv
  obtain ⟨u, hu, hru⟩ := hrl.get he
  refine g_same hm (v := u) ?_ hru
  simp [execOp, hop, hv, Instr.extract, hu]

theorem arr1 {α : Type} {c : Array α} {y : α} (h : c.toList = [y]) : c = #[y] := by
  apply Array.ext'
  rw [h]
theorem map_arr {α β : Type} (f : α → β) (c : Array α) : (c.toList.map f).toArray = c.map f := by
  apply Array.ext'
  simp
theorem g_len (hm : Ok M w) {c : Call} {t e : TypeId} {x : A} {y : Operand} {fl : Bool} {ty : Ty} {xs : List ty.D} (hop : o.op = .call c) (hc : c.callee = .builtin .len) (ha : c.args.toList = [y]) (ht : c.argTypes.toList = [t]) (h1 : okA y x = true)
    (h2 : P.underlying t = some (.slice e)) (hr : Reads M G a rd x.tmps) (hx : (rd x).toV = some (.sl fl ty xs)) : Gives P M G w (.p (.int .i64 (std.len xs))) (execOp a.eval o) := by
  refine g_same hm (v := .int .i64 xs.length) ?_ (show RD M G (.p _) _ from R_int' M _ _)
  have hxv := opdV h1 hr hx
  obtain ⟨ao, cap, hv, _⟩ := R_sl.1 hxv
  rw [List.length_map] at hv
  simp [execOp, hop, hc, arr1 ha, arr1 ht, resolve, invoke, builtin, Builtin.len_, run_underlying h2, hv, std, goInt]
theorem g_lenm (hm : Ok M w) {c : Call} {t e : TypeId} {x : A} {y : Operand} {id sz : Nat} {lo len : Int} (hop : o.op = .call c) (hc : c.callee = .builtin .len) (ha : c.args.toList = [y]) (ht : c.argTypes.toList = [t]) (h1 : okA y x = true)
    (h2 : P.underlying t = some (.slice e)) (hr : Reads M G a rd x.tmps) (hx : rd x = .msl id sz lo len) : Gives P M G w (.p (.int .i64 len)) (execOp a.eval o) := by
  have hxv := opd h1 hr
  rw [hx] at hxv
  obtain ⟨ao, n, cap, hv, rfl, _⟩ := hxv
  refine g_same hm (v := .int .i64 n) ?_ (show RD M G (.p _) _ from R_int' M _ _)
  simp [execOp, hop, hc, arr1 ha, arr1 ht, resolve, invoke, builtin, Builtin.len_, run_underlying h2, hv, goInt]
theorem g_slen (hm : Ok M w) {c : Call} {t : TypeId} {x : A} {y : Operand} {s : ByteArray} (hop : o.op = .call c) (hc : c.callee = .builtin .len) (ha : c.args.toList = [y]) (ht : c.argTypes.toList = [t]) (h1 : okA y x = true)
    (h2 : P.underlying t = some .string) (hr : Reads M G a rd x.tmps) (hx : rd x = .p (.str s)) : Gives P M G w (.p (.int .i64 (std.slen s))) (execOp a.eval o) := by
  refine g_same hm (v := .int .i64 s.size) ?_ (show RD M G (.p _) _ from R_int' M _ _)
  have hxv := opd h1 hr
  rw [hx] at hxv
  have hxv := RD_str hxv
  simp [execOp, hop, hc, arr1 ha, arr1 ht, resolve, invoke, builtin, Builtin.len_, run_underlying h2, hxv, std, goInt]

theorem g_eqb (hm : Ok M w) {neg : Bool} {t t' : TypeId} {x y : A} {x' y' : Operand} {m n : Bool} (hop : o.op = .binOp (if neg then .neq else .eql) t x' y' t') (h1 : okA x' x = true) (h2 : okA y' y = true) (h3 : P.underlying t = some .bool)
    (hr : Reads M G a rd (x.tmps ++ y.tmps)) (hx : rd x = .p (.bool m)) (hy : rd y = .p (.bool n)) : Gives P M G w (.p (.bool (bif neg then !(m == n) else (m == n)))) (execOp a.eval o) := by
  have hxv := opd h1 (hr.mono (fun t ht => by simp [ht]))
  have hyv := opd h2 (hr.mono (fun t ht => by simp [ht]))
  rw [hx] at hxv
  rw [hy] at hyv
  cases neg with
  | true =>
    refine g_same hm (v := .bool (!(m == n))) ?_ (show RD M G (.p _) _ from R_bool' M _)
    simp only [if_true] at hop
    simp only [execOp, hop, RD_bool hxv, RD_bool hyv, Sem.run_bind, Result.andThen_ok]
    simp [eqGuard, run_neq_bool w t m n h3]
  | false =>
    refine g_same hm (v := .bool (m == n)) ?_ (show RD M G (.p _) _ from R_bool' M _)
    simp only [Bool.false_eq_true, if_false] at hop
    simp only [execOp, hop, RD_bool hxv, RD_bool hyv, Sem.run_bind, Result.andThen_ok]
    simp [eqGuard, run_eql_bool w t m n h3]

theorem eqFields_run (d : Nat) (us vs : List Value) : ∀ (fs : List Field) (i : Nat) (cs es : List V) (b : Bool), okFs P fs i = true → RL M cs (us.drop i) → RL M es (vs.drop i) → eqCells std cs es = some b → fs.length = cs.length →
    (Op.eqFields (d + 1) us.toArray vs.toArray fs).run P w = .ok b w
  | [], i, cs, es, b, _, hc, he, hb, hl => by
    have : cs = [] := List.eq_nil_of_length_eq_zero hl.symm
    subst this
    cases es with
    | nil => simp only [eqCells, Option.some.injEq] at hb; subst hb; simp [Op.eqFields]
    | cons e es => simp [eqCells] at hb
  | f :: fs, i, [], es, b, _, _, _, _, hl => by simp at hl
  | f :: fs, i, c :: cs, es, b, hok, hc, he, hb, hl => by
    simp only [okFs, Bool.and_eq_true, bne_iff_ne, beq_iff_eq] at hok
    obtain ⟨⟨⟨h1, h2⟩, h3⟩, h4⟩ := hok
    split at h3
    · rename_i kt hkt
      cases c with
      | int k x =>
        cases es with
        | nil => simp [eqCells] at hb
        | cons e es =>
          cases e with
          | int k' y =>
            have hb1 : (bif kindEq k k' then (match eqCells std cs es with | some b => some (std.eq x y && b) | none => none) else none) = some b := hb
            clear hb
            obtain ⟨hk, hb2⟩ := cond_some hb1
            clear hb1
            obtain rfl := kindEq_eq hk
            split at hb2
            · rename_i b' hb'
              simp only [Option.some.injEq] at hb2
              rw [RL] at hc he
              obtain ⟨u, us', hu, hru, hcs⟩ := hc
              obtain ⟨v, vs', hv, hrv, hes⟩ := he
              have hu0 : us[i]? = some (.int k x) := by
                have : (us.drop i)[0]? = some u := by rw [hu]; rfl
                rw [List.getElem?_drop, Nat.add_zero] at this
                rw [this, R_int hru]
              have hv0 : vs[i]? = some (.int k y) := by
                have : (vs.drop i)[0]? = some v := by rw [hv]; rfl
                rw [List.getElem?_drop, Nat.add_zero] at this
                rw [this, R_int hrv]
              have hagg : tyAgg P f.type = some false := by simp [tyAgg, hkt]
              have ht1 : us.drop (i + 1) = us' := by rw [← List.tail_drop, hu]; rfl
              have ht2 : vs.drop (i + 1) = vs' := by rw [← List.tail_drop, hv]; rfl
              have ih := eqFields_run d us vs fs (i + 1) cs es b' h4 (by rw [ht1]; exact hcs) (by rw [ht2]; exact hes) hb' (by simpa using hl)
              have hp1 : (part f.type us.toArray f.offset).run P w = .ok (.int k x) w := by simp [part, Sem.run_bind, agg_run hagg, h2, hu0]
              have hp2 : (part f.type vs.toArray f.offset).run P w = .ok (.int k y) w := by simp [part, Sem.run_bind, agg_run hagg, h2, hv0]
              simp only [Op.eqFields, if_pos h1, Sem.run_bind, hp1, hp2, Result.andThen_ok, run_equalIn_int w d f.type k kt x y hkt]
              subst hb2
              by_cases hxy : x = y
              · subst hxy
                simp [std, ih]
              · have : (x == y) = false := by simpa using hxy
                simp [std, this]
            · cases hb2
          | _ => simp [eqCells] at hb
      | _ => cases es <;> simp [eqCells] at hb
    · cases h3

theorem g_eqa (hm : Ok M w) {neg : Bool} {n : Nat} {t t' : TypeId} {fs : Array Field} {x y : A} {x' y' : Operand} {cs es : List V} {b : Bool} (hop : o.op = .binOp (if neg then .neq else .eql) t x' y' t') (h1 : okA x' x = true) (h2 : okA y' y = true)
    (h3 : P.underlying t = some (.struct fs)) (h4 : fs.size = n) (h5 : okFs P fs.toList 0 = true) (h6 : P.stoodInHeld t = false) (h7 : P.eqGuardType P.depth t = false)
    (hr : Reads M G a rd (x.tmps ++ y.tmps)) (hx : rd x = .p (.agg cs)) (hy : rd y = .p (.agg es)) (hl : cs.length = n) (he : eqCells std cs es = some b) : Gives P M G w (.p (.bool (bif neg then !b else b))) (execOp a.eval o) := by
  have hxv := opd h1 (hr.mono (fun t ht => by simp [ht]))
  have hyv := opd h2 (hr.mono (fun t ht => by simp [ht]))
  rw [hx] at hxv
  rw [hy] at hyv
  have hxv : R M (.agg cs) (a.eval x') := hxv
  have hyv : R M (.agg es) (a.eval y') := hyv
  rw [R] at hxv hyv
  obtain ⟨us, e1, hus, _⟩ := hxv
  obtain ⟨vs, e2, hvs, _⟩ := hyv
  have hf : P.fieldsOf t = fs := by simp [Program.fieldsOf, h3]
  have hrun := eqFields_run (P := P) (M := M) (w := w) 9998 us vs fs.toList 0 cs es b h5 (by simpa using hus) (by simpa using hvs) he (by rw [hl, ← h4]; simp)
  have heq : (Op.equalIn 10000 t (.agg us.toArray) (.agg vs.toArray)).run P w = .ok b w := by
    rw [run_equalIn_struct w 9999 t _ _ (by rw [hf]; exact h3) h6, hf]
    exact hrun
  cases neg with
  | true =>
    refine g_same hm (v := .bool (!b)) ?_ (show RD M G (.p _) _ from R_bool' M _)
    simp only [if_true] at hop
    simp only [execOp, hop, e1, e2, Sem.run_bind, run_eqGuard_agg w _ t x' y' _ _ h7, Result.andThen_ok, run_neq_struct, heq]
    rfl
  | false =>
    refine g_same hm (v := .bool b) ?_ (show RD M G (.p _) _ from R_bool' M _)
    simp only [Bool.false_eq_true, if_false] at hop
    simp only [execOp, hop, e1, e2, Sem.run_bind, run_eqGuard_agg w _ t x' y' _ _ h7, Result.andThen_ok, run_eql_struct, heq]
    rfl

theorem g_mm (hm : Ok M w) {mx : Bool} {c : Call} {x y : A} {x' y' : Operand} {k k' : IntKind} {m n : Int} (hop : o.op = .call c) (hc : c.callee = .builtin (if mx then .max else .min)) (ha : c.args.toList = [x', y']) (h1 : okA x' x = true) (h2 : okA y' y = true)
    (hr : Reads M G a rd (x.tmps ++ y.tmps)) (hx : rd x = .p (.int k m)) (hy : rd y = .p (.int k' n)) : Gives P M G w (.p (.int k (bif mx then std.mx m n else std.mn m n))) (execOp a.eval o) := by
  have hxv := opd h1 (hr.mono (fun t ht => by simp [ht]))
  have hyv := opd h2 (hr.mono (fun t ht => by simp [ht]))
  rw [hx] at hxv
  rw [hy] at hyv
  have hargs : c.args = #[x', y'] := by apply Array.ext'; rw [ha]
  cases mx with
  | true =>
    refine g_same hm (v := .int k (max m n)) ?_ (show RD M G (.p _) _ from R_int' M _ _)
    simp only [if_true] at hc
    simp [execOp, hop, hc, hargs, resolve, invoke, builtin, RD_int hxv, RD_int hyv, Lib.run_max_ints]
  | false =>
    refine g_same hm (v := .int k (min m n)) ?_ (show RD M G (.p _) _ from R_int' M _ _)
    simp only [Bool.false_eq_true, if_false] at hc
    simp [execOp, hop, hc, hargs, resolve, invoke, builtin, RD_int hxv, RD_int hyv, Lib.run_min_ints]

theorem g_mkf (hm : Ok M w) {f : FuncId} {as : List A} {caps : Array Operand} {vs : List V} (hop : o.op = .makeFunc (.func f) #[] caps) (h1 : okAs caps.toList as = true) (hr : Reads M G a rd (tmpsL as)) (he : allV (as.map rd) = some vs) :
    Gives P M G w (.p (.clo f vs)) (execOp a.eval o) := by
  have h := opds h1 hr he
  refine g_same hm (v := .func (.func f) #[] (caps.toList.map a.eval).toArray) ?_ ?_
  · rw [map_arr]
    simp [execOp, hop, Instr.makeFunc]
  · show R M (.clo f vs) _
    rw [R]
    exact ⟨_, rfl, h⟩

theorem g_conv (hm : Ok M w) {src dst : TypeId} {k k' : IntKind} {n : Int} {x : A} {x' : Operand} (hop : o.op = .convert src dst x') (h1 : okA x' x = true) (h2 : (P.underlying src).isSome = true) (h3 : P.underlying dst = some (.int k))
    (hr : Reads M G a rd x.tmps) (hx : rd x = .p (.int k' n)) : Gives P M G w (.p (.int k (std.conv k n))) (execOp a.eval o) := by
  have hxv := opd h1 hr
  rw [hx] at hxv
  have hxv := RD_int hxv
  have hik : P.intKind dst = k := by simp [Program.intKind, h3]
  refine g_same hm (v := .int k (k.wrap n)) ?_ (show RD M G (.p _) _ from R_int' M _ _)
  have := run_convert_int (P := P) w src dst k' n h2 (by rw [hik]; exact h3)
  rw [hik] at this
  simp [execOp, hop, hxv, this]

theorem g_nilck (hm : Ok M w) {x : A} {x' : Operand} (hop : o.op = .nilCheck x') (h1 : okA x' x = true) (hr : Reads M G a rd x.tmps)
    (he : (match rd x with | .p (.ptr cs o) => some (.p (.ptr cs o)) | .p (.clo f cs) => some (.p (.clo f cs)) | .mptr id o => some (.mptr id o) | _ => none) = some d) : Gives P M G w d (execOp a.eval o) := by
  have hxv := opd h1 hr
  split at he
  · rename_i cs o' hx
    cases he
    rw [hx] at hxv
    refine g_same hm (v := a.eval x') ?_ hxv
    have hxv : R M (.ptr cs o') (a.eval x') := hxv
    rw [R] at hxv
    obtain ⟨ad, us, hv, _⟩ := hxv
    simp [execOp, hop, hv]
  · rename_i f cs hx
    cases he
    rw [hx] at hxv
    refine g_same hm (v := a.eval x') ?_ hxv
    have hxv : R M (.clo f cs) (a.eval x') := hxv
    rw [R] at hxv
    obtain ⟨us, hv, _⟩ := hxv
    simp [execOp, hop, hv]
  · rename_i id o' hx
    cases he
    rw [hx] at hxv
    refine g_same hm (v := a.eval x') ?_ hxv
    obtain ⟨b, hb, hv⟩ := hxv
    simp [execOp, hop, hv]
  · cases he

theorem parts3_get {rd : A → D} : ∀ {qs : List (Nat × Nat × A)} {ps : List (Nat × Nat × V)}, parts3 rd qs = some ps → ps.length = qs.length ∧ ∀ (k off sz : Nat) (v : V), ps[k]? = some (off, sz, v) → ∃ x, qs[k]? = some (off, sz, x) ∧ (rd x).toV = some v
  | [], ps, h => by simp [parts3] at h; subst h; exact ⟨rfl, fun k off sz v h => by simp at h⟩
  | (o, s, x) :: qs, ps, h => by
    simp only [parts3] at h
    split at h
    · cases h
    · rename_i v hx
      split at h
      · rename_i ps' hps
        cases h
        obtain ⟨h1, h2⟩ := parts3_get hps
        refine ⟨by simp [h1], fun k off sz v' hk => ?_⟩
        cases k with
        | zero => simp at hk; obtain ⟨rfl, rfl, rfl⟩ := hk; exact ⟨x, rfl, hx⟩
        | succ k => simpa using h2 k off sz v' (by simpa using hk)
      · cases h
theorem parts2_get {rd : A → D} : ∀ {qs : List (Nat × A)} {ps : List (Nat × V)}, parts2 rd qs = some ps → ps.length = qs.length ∧ ∀ (k i : Nat) (v : V), ps[k]? = some (i, v) → ∃ x, qs[k]? = some (i, x) ∧ (rd x).toV = some v
  | [], ps, h => by simp [parts2] at h; subst h; exact ⟨rfl, fun k i v h => by simp at h⟩
  | (o, x) :: qs, ps, h => by
    simp only [parts2] at h
    split at h
    · cases h
    · rename_i v hx
      split at h
      · rename_i ps' hps
        cases h
        obtain ⟨h1, h2⟩ := parts2_get hps
        refine ⟨by simp [h1], fun k i v' hk => ?_⟩
        cases k with
        | zero => simp at hk; obtain ⟨rfl, rfl⟩ := hk; exact ⟨x, rfl, hx⟩
        | succ k => simpa using h2 k i v' (by simpa using hk)
      · cases h
theorem okParts_get {t : TypeId} : ∀ {os : List (Nat × Operand)} {qs : List (Nat × Nat × A)}, okParts P t os qs = true → os.length = qs.length ∧ ∀ (k i : Nat) (y : Operand), os[k]? = some (i, y) → ∃ off sz x f, qs[k]? = some (off, sz, x) ∧ tyField P t i = some f ∧ f.offset = off ∧ tySize P f.type = some sz ∧ okA y x = true
  | [], [], _ => ⟨rfl, fun k i y h => by simp at h⟩
  | (i, y) :: os, (off, sz, x) :: qs, h => by
    simp only [okParts, Bool.and_eq_true] at h
    obtain ⟨⟨h1, h2⟩, h3⟩ := h
    split at h1
    · rename_i f hf
      simp only [Bool.and_eq_true, beq_iff_eq] at h1
      obtain ⟨h4, h5⟩ := okParts_get h3
      refine ⟨by simp [h4], fun k i' y' hk => ?_⟩
      cases k with
      | zero => simp at hk; obtain ⟨rfl, rfl⟩ := hk; exact ⟨off, sz, x, f, rfl, hf, h1.1, h1.2, h2⟩
      | succ k => simpa using h5 k i' y' (by simpa using hk)
    · cases h1
  | [], _ :: _, h => by simp [okParts] at h
  | _ :: _, [], h => by simp [okParts] at h
theorem okP2_get : ∀ {os : List (Nat × Operand)} {qs : List (Nat × A)}, okP2 os qs = true → os.length = qs.length ∧ ∀ (k i : Nat) (y : Operand), os[k]? = some (i, y) → ∃ x, qs[k]? = some (i, x) ∧ okA y x = true
  | [], [], _ => ⟨rfl, fun k i y h => by simp at h⟩
  | (i, y) :: os, (j, x) :: qs, h => by
    simp only [okP2, Bool.and_eq_true, beq_iff_eq] at h
    obtain ⟨⟨rfl, h2⟩, h3⟩ := h
    obtain ⟨h4, h5⟩ := okP2_get h3
    refine ⟨by simp [h4], fun k i' y' hk => ?_⟩
    cases k with
    | zero => simp at hk; obtain ⟨rfl, rfl⟩ := hk; exact ⟨x, rfl, h2⟩
    | succ k => simpa using h5 k i' y' (by simpa using hk)
  | [], _ :: _, h => by simp [okP2] at h
  | _ :: _, [], h => by simp [okP2] at h
theorem mem_tmpsL {x : A} : ∀ {as : List A}, x ∈ as → ∀ t, t ∈ x.tmps → t ∈ tmpsL as
  | a :: as, h, t, ht => by
    simp only [tmpsL, List.mem_append]
    cases h with
    | head => exact .inl ht
    | tail _ h => exact .inr (mem_tmpsL h t ht)

theorem places_some : ∀ (fs : List Field), (fs.all fun f => (tySize P f.type).isSome) = true → ∃ places, fs.mapM (fun f => (P.info? f.type).map fun i => (f.offset, i.size)) = some places ∧ ∀ (i : Nat) (f : Field) (sz : Nat), fs[i]? = some f → tySize P f.type = some sz → places[i]? = some (f.offset, sz)
  | [], _ => ⟨[], by simp, fun i f sz h => by simp at h⟩
  | f :: fs, h => by
    simp only [List.all_cons, Bool.and_eq_true] at h
    obtain ⟨pl, h1, h2⟩ := places_some fs h.2
    obtain ⟨s, hs⟩ := Option.isSome_iff_exists.1 h.1
    have hs' := hs
    unfold tySize at hs'
    cases hi : P.info? f.type with
    | none => simp [hi] at hs'
    | some inf =>
      simp [hi] at hs'
      refine ⟨(f.offset, inf.size) :: pl, by simp [List.mapM_cons, hi, h1], fun i f' sz hf hz => ?_⟩
      cases i with
      | zero =>
        simp at hf; subst hf
        rw [hs] at hz
        cases hz
        simp [hs']
      | succ i => simpa using h2 i f' sz (by simpa using hf) hz

theorem g_bld (hm : Ok M w) {t : TypeId} {ps : Array (Nat × Operand)} {zero : List V} {qs : List (Nat × Nat × A)} {fs : Array Field} {inf : TypeInfo} {z : Value} {vs : List (Nat × Nat × V)} {cs : List V} (hop : o.op = .build t ps)
    (h1 : P.underlying t = some (.struct fs)) (h2 : (fs.toList.all fun f => (tySize P f.type).isSome) = true) (h3 : P.info? t = some inf) (h4 : inf.zero = some z) (h5 : okVs z.cells.toList zero = true) (h6 : okParts P t ps.toList qs = true)
    (hr : Reads M G a rd (tmpsL (qs.map fun p => p.2.2))) (hp : parts3 rd qs = some vs) (he : fillV zero vs = some cs) : Gives P M G w (.p (.agg cs)) (execOp a.eval o) := by
  obtain ⟨places, hpl, hget⟩ := places_some (P := P) fs.toList h2
  obtain ⟨hz1, hz2⟩ := okVs_RL (M := M) h5
  obtain ⟨hl1, hg1⟩ := okParts_get h6
  obtain ⟨hl2, hg2⟩ := parts3_get hp
  have hev : (ps.map fun (i, x) => (i, a.eval x)).toList = ps.toList.map fun x => (x.1, a.eval x.2) := by simp
  obtain ⟨us', hf, hru, hsu⟩ := fill_run (M := M) (places.toArray[·]?) (ps.map fun (i, x) => (i, a.eval x)).toList vs z.cells.toList zero cs (by rw [hev]; simp [hl1, hl2])
    (fun k i u off sz v hk hv => by
      rw [hev, List.getElem?_map] at hk
      cases hk' : ps.toList[k]? with
      | none => rw [hk'] at hk; cases hk
      | some p =>
        obtain ⟨i', y⟩ := p
        rw [hk'] at hk
        simp at hk
        obtain ⟨rfl, rfl⟩ := hk
        obtain ⟨off', sz', x, f, hq, hf, ho, hsz, hok⟩ := hg1 k i' y hk'
        obtain ⟨x', hq', hx'⟩ := hg2 k off sz v hv
        rw [hq] at hq'
        simp at hq'
        obtain ⟨rfl, rfl, rfl⟩ := hq'
        refine ⟨?_, opdV hok (hr.mono (mem_tmpsL (List.mem_map.2 ⟨(off', sz', x), List.mem_of_getElem? hq, rfl⟩))) hx'⟩
        unfold tyField at hf
        rw [h1] at hf
        have := hget i' f sz' (by simpa using hf) hsz
        simp [this, ho]) hz1 hz2 he
  refine g_same hm (v := .agg us'.toArray) ?_ ?_
  · have := run_build (P := P) w t (ps.map fun (i, x) => (i, a.eval x)) us'.toArray (by
      unfold Program.built
      rw [h3, h1]
      simp only [h4, hpl]
      rw [Array.toArray_toList] at hf
      exact hf)
    simp only [execOp, hop, Sem.run_bind, this, Result.andThen_ok]
    rfl
  · show R M (.agg cs) _
    rw [R]
    exact ⟨us', rfl, hru, hsu⟩

theorem g_blda (hm : Ok M w) {t e : TypeId} {n sz : Nat} {ps : Array (Nat × Operand)} {zero : List V} {qs : List (Nat × A)} {inf : TypeInfo} {z : Value} {vs : List (Nat × V)} {cs : List V} (hop : o.op = .build t ps)
    (h1 : P.underlying t = some (.array n e)) (h2 : tySize P e = some sz) (h3 : P.info? t = some inf) (h4 : inf.zero = some z) (h5 : okVs z.cells.toList zero = true) (h6 : okP2 ps.toList qs = true)
    (hr : Reads M G a rd (tmpsL (qs.map fun p => p.2))) (hp : parts2 rd qs = some vs) (he : fillV zero (vs.map fun p => (p.1 * sz, sz, p.2)) = some cs) : Gives P M G w (.p (.agg cs)) (execOp a.eval o) := by
  obtain ⟨hz1, hz2⟩ := okVs_RL (M := M) h5
  obtain ⟨hl1, hg1⟩ := okP2_get h6
  obtain ⟨hl2, hg2⟩ := parts2_get hp
  have hev : (ps.map fun (i, x) => (i, a.eval x)).toList = ps.toList.map fun x => (x.1, a.eval x.2) := by simp
  obtain ⟨us', hf, hru, hsu⟩ := fill_run (M := M) (fun i => some (i * sz, sz)) (ps.map fun (i, x) => (i, a.eval x)).toList (vs.map fun p => (p.1 * sz, sz, p.2)) z.cells.toList zero cs (by rw [hev]; simp [hl1, hl2])
    (fun k i u off sz' v hk hv => by
      rw [hev, List.getElem?_map] at hk
      rw [List.getElem?_map] at hv
      obtain ⟨p, hk', hke⟩ := Option.map_eq_some_iff.1 hk
      obtain ⟨q, hv', hve⟩ := Option.map_eq_some_iff.1 hv
      obtain ⟨i', y⟩ := p
      obtain ⟨j', v'⟩ := q
      simp at hke hve
      obtain ⟨rfl, rfl⟩ := hke
      obtain ⟨rfl, rfl, rfl⟩ := hve
      obtain ⟨x, hq, hok⟩ := hg1 k i' y hk'
      obtain ⟨x', hq', hx'⟩ := hg2 k j' v' hv'
      rw [hq] at hq'
      simp at hq'
      obtain ⟨rfl, rfl⟩ := hq'
      exact ⟨rfl, opdV hok (hr.mono (mem_tmpsL (List.mem_map.2 ⟨(i', x), List.mem_of_getElem? hq, rfl⟩))) hx'⟩) hz1 hz2 he
  refine g_same hm (v := .agg us'.toArray) ?_ ?_
  · rw [Array.toArray_toList, hev] at hf
    simp [execOp, hop, Instr.build, zeroValue, typeInfo, h3, h4, run_underlying h1, size_run h2, hf]
  · show R M (.agg cs) _
    rw [R]
    exact ⟨us', rfl, hru, hsu⟩

/-- The whole of an array, as a slice: the array's variable lies in known memory. -/
theorem g_asl (hm : Ok M w) {t e : TypeId} {n : Nat} {x : A} {x' : Operand} {cs : List V} {ty : Ty} {ds : List ty.D} (hd : decL ty cs = some ds) (hop : o.op = .slice t x' none none none) (h1 : okA x' x = true) (h3 : P.underlying t = some (.array n e)) (h4 : tySize P e = some 1)
    (hr : Reads M G a rd x.tmps) (hx : rd x = .p (.ptr cs 0)) (hl : cs.length = n) : Gives P M G w (.p (.sl true ty ds)) (execOp a.eval o) := by
  have hxv := opd h1 hr
  rw [hx] at hxv
  have hxv : R M (.ptr cs 0) (a.eval x') := hxv
  rw [R] at hxv
  obtain ⟨ad, us, hv, hus, hk⟩ := hxv
  have had : ad.add 0 = ad := by unfold Addr.add; simp
  rw [had] at hv
  refine g_same hm (v := .slice (some ad) n n) ?_ ?_
  · by_cases hn : n = 0
    · subst hn
      simp [execOp, hop, Instr.sliceAt, run_underlying h3, hv, Instr.sureAddr, Instr.sliceBounds, size_run h4]
    · simp [execOp, hop, Instr.sliceAt, run_underlying h3, hv, Instr.sureAddr, Instr.sliceBounds, size_run h4, had]
  · show R M (.sl true ty ds) _
    have hl : (ds.map ty.enc).length = n := by rw [List.length_map, decL_len hd, hl]
    refine R_sl.2 ⟨some ad, n, by rw [hl], by rw [hl]; exact Nat.le_refl _, fun _ => hl.symm, .inr ⟨ad, 1, us, rfl, Nat.one_pos, hus.decL hd, fun i u hu => ?_⟩⟩
    obtain ⟨q1, q2⟩ := hk i u hu
    refine ⟨by rw [q2.1]; rfl, fun c hc => by rw [q2.1] at hc; simp at hc; subst hc; exact q2, fun j hj => ?_⟩
    have : j = 0 := by omega
    subst this
    rw [Nat.mul_one, Nat.add_zero, q1, q2.1]; rfl

theorem g_boxi (hm : Ok M w) {t : TypeId} {x : A} {x' : Operand} {v : V} (hop : o.op = .box t x') (h1 : okA x' x = true) (hr : Reads M G a rd x.tmps) (hx : (rd x).toV = some v) (hnt : ∀ vs, v ≠ .tup vs) :
    Gives P M G w (.p (.ptr v.cells 0)) (execOp a.eval o) := by
  have hxv := opdV h1 hr hx
  obtain ⟨h2, h3⟩ := R_cells hxv hnt
  refine ⟨.pointer (some ⟨w.heap.size, 0, none⟩), know M w.heap.size (a.eval x').cells.toList, w.alloc (.cells (a.eval x').cells t), ?_, ?_, ?_⟩
  · simp [execOp, hop, Instr.box, newVar, newRow]
  · have := alloc_ext hm (a.eval x').cells.toList t
    rwa [Array.toArray_toList] at this
  · show R _ (.ptr v.cells 0) _
    rw [R]
    have he := alloc_ext hm (a.eval x').cells.toList t
    rw [Array.toArray_toList] at he
    refine ⟨⟨w.heap.size, 0, none⟩, (a.eval x').cells.toList, rfl, RL.sub (he.sub hm) _ _ h2, fun j u hj => ?_⟩
    rw [add_plain, know_new]
    exact ⟨hj, h3 u (List.mem_of_getElem? hj)⟩
end

end Go.Evl
