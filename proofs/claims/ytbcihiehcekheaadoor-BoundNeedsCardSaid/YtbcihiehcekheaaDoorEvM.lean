/-
  A value semantics for the program's code, part M: maps, as they lie in an arena.
  Conditions: none; this text holds definitions and lemmas of their own.
-/
import Derived.Test.YtbcihiehcekheaaDoorEv13
import Derived.MapKept
import Derived.Carry
namespace Go.Evl
open Go Go.RowKit
set_option linter.unusedVariables false
set_option linter.unusedSimpArgs false
variable {P : Program} {w : World} {M : Mem}

theorem okKey_cases {kt : TypeId} {tk : Ty} (h : okKey P kt tk = true) : (∃ k, tk = .int k ∧ P.underlying kt = some (.int k)) ∨ ∃ ts fs, tk = .agg ts ∧ P.underlying kt = some (.struct fs) ∧ fs.size = ts.len ∧ okFs P fs.toList 0 = true ∧ P.stoodInHeld kt = false ∧ ts.ints = true := by
  unfold okKey at h
  split at h
  · split at h
    · rename_i k k' hk
      rw [kindEq_eq h] at hk
      exact .inl ⟨_, rfl, hk⟩
    · cases h
  · split at h
    · rename_i fs hk
      simp only [Bool.and_eq_true, beq_iff_eq, Bool.not_eq_true'] at h
      exact .inr ⟨_, fs, rfl, hk, h.1, h.2.1, h.2.2.1, h.2.2.2⟩
    · cases h
  · cases h
theorem eqI_iff {a b : Int} : eqI a b = true ↔ a = b := by unfold eqI; exact beq_iff_eq
theorem int_same {k : IntKind} (a b : Int) : eqI a b = true ↔ Value.int k a = Value.int k b := by
  rw [eqI_iff]
  exact ⟨fun q => congrArg (Value.int k) q, fun q => (Value.int.inj q).2⟩
/-- Keys of whole numbers: what is the same is one value. -/
theorem ints_eq : ∀ {ts : Tys} {d d' : ts.D} {us us' : List Value}, ts.ints = true → RTs M ts d us → RTs M ts d' us' → (ts.keq d d' = true ↔ us = us') ∧ eqCells std (ts.enc d) (ts.enc d') = some (ts.keq d d')
  | .nil, _, _, us, us', _, h, h' => by
    rw [RTs_nil.1 h, RTs_nil.1 h']
    exact ⟨by simp [Tys.keq], rfl⟩
  | .cons t ts, d, d', us, us', hi, h, h' => by
    obtain ⟨u, r, rfl, h1, h2⟩ := RTs_cons.1 h
    obtain ⟨u', r', rfl, h1', h2'⟩ := RTs_cons.1 h'
    have hi' : (t.isInt && ts.ints) = true := hi
    rw [Bool.and_eq_true] at hi'
    obtain ⟨ih1, ih2⟩ := ints_eq hi'.2 h2 h2'
    cases t with
    | int k =>
      have e1 : u = .int k d.1 := h1
      have e2 : u' = .int k d'.1 := h1'
      subst e1 e2
      have hk : kindEq k k = true := by cases k <;> rfl
      refine ⟨?_, ?_⟩
      · show (eqI d.1 d'.1 && ts.keq d.2 d'.2) = true ↔ _
        rw [Bool.and_eq_true, ih1]
        exact ⟨fun ⟨q1, q2⟩ => by rw [(int_same (k := k) d.1 d'.1).1 q1, q2], fun q => ⟨(int_same (k := k) d.1 d'.1).2 (List.cons.inj q).1, (List.cons.inj q).2⟩⟩
      · show (bif kindEq k k then (match eqCells std (ts.enc d.2) (ts.enc d'.2) with
          | some b => some (std.an (std.eq d.1 d'.1) b)
          | none => none) else none) = _
        rw [hk, ih2]
        rfl
    | _ => cases hi'.1
theorem key_same {kt : TypeId} {tk : Ty} (h : okKey P kt tk = true) {d d' : tk.D} {x x' : Value} (hx : RT M tk d x) (hx' : RT M tk d' x') : tk.keq d d' = true ↔ x = x' := by
  rcases okKey_cases h with ⟨k, rfl, _⟩ | ⟨ts, fs, rfl, _, _, _, _, hi⟩
  · have e1 : x = .int k d := hx
    have e2 : x' = .int k d' := hx'
    subst e1 e2
    exact int_same (k := k) d d'
  · obtain ⟨us, rfl, h1, _⟩ := RT_agg.1 hx
    obtain ⟨us', rfl, h2, _⟩ := RT_agg.1 hx'
    rw [show (Ty.agg ts).keq d d' = ts.keq d d' from rfl, (ints_eq hi h1 h2).1]
    constructor
    · intro q; rw [q]
    · intro q
      simpa using q
theorem key_run {kt : TypeId} {tk : Ty} (h : okKey P kt tk = true) {d d' : tk.D} {x x' : Value} (hx : RT M tk d x) (hx' : RT M tk d' x') : (Op.equal kt x x').run P w = .ok (tk.keq d d') w := by
  rcases okKey_cases h with ⟨k, rfl, hk⟩ | ⟨ts, fs, rfl, ht, hs, hf, hp, hi⟩
  · have e1 : x = .int k d := hx
    have e2 : x' = .int k d' := hx'
    subst e1 e2
    exact run_equalIn_int w 9999 kt k k d d' hk
  · obtain ⟨us, rfl, h1, _⟩ := RT_agg.1 hx
    obtain ⟨us', rfl, h2, _⟩ := RT_agg.1 hx'
    have hfs : P.fieldsOf kt = fs := by simp [Program.fieldsOf, ht]
    have hrun := eqFields_run (P := P) (M := M) (w := w) 9998 us us' fs.toList 0 (ts.enc d) (ts.enc d') (ts.keq d d') hf (by simpa using (RL_enc ts d us).2 h1) (by simpa using (RL_enc ts d' us').2 h2) (ints_eq hi h1 h2).2 ((by simpa using hs : fs.toList.length = ts.len).trans (Tys.enc_len ts d).symm)
    show (Op.equalIn (9999 + 1) kt _ _).run P w = _
    rw [run_equalIn_struct w 9999 kt _ _ (by rw [hfs]; exact ht) hp, hfs]
    exact hrun
/-- The check of a key turns nothing. -/
theorem check_fields {P : Program} {w : World} {us : List Value} : ∀ (fs : List Field) (i : Nat) (em : Bool) (n : Nat), okFs P fs i = true → (∀ j, i ≤ j → j < i + fs.length → ∃ k x, us[j]? = some (.int k x)) →
    (forIn fs PUnit.unit fun f (_ : PUnit) => (if f.name ≠ "_" then do
        let v ← part f.type us.toArray f.offset
        Instr.checkKey em (n + 1) f.type v
        pure (ForInStep.yield PUnit.unit)
      else pure (ForInStep.yield PUnit.unit) : Sem (ForInStep PUnit))).run P w = .ok PUnit.unit w
  | [], _, _, _, _, _ => by simp
  | f :: fs, i, em, n, hok, hu => by
    simp only [okFs, Bool.and_eq_true, bne_iff_ne, beq_iff_eq] at hok
    obtain ⟨⟨⟨h1, h2⟩, h3⟩, h4⟩ := hok
    split at h3
    · rename_i kt hkt
      obtain ⟨k, x, hx⟩ := hu i (Nat.le_refl _) (by simp)
      have hagg : tyAgg P f.type = some false := by simp [tyAgg, hkt]
      have hp1 : (part f.type us.toArray f.offset).run P w = .ok (.int k x) w := by simp [part, Sem.run_bind, agg_run hagg, h2, hx]
      have hc : (Instr.checkKey em (n + 1) f.type (.int k x)).run P w = .ok () w := by
        unfold Instr.checkKey
        simp [Sem.run_bind, run_underlying hkt, Result.andThen]
      have ih := check_fields (P := P) (w := w) (us := us) fs (i + 1) em n h4 (fun j a b => hu j (by omega) (by simp only [List.length_cons]; omega))
      simp only [List.forIn_cons, if_pos h1, Sem.run_bind, hp1, hc, Result.andThen_ok, Sem.run_pure] at ih ⊢
      exact ih
    · cases h3
theorem ints_get : ∀ {ts : Tys} {d : ts.D} {us : List Value}, ts.ints = true → RTs M ts d us → us.length = ts.len ∧ ∀ j, j < us.length → ∃ k x, us[j]? = some (.int k x)
  | .nil, _, us, _, h => by rw [RTs_nil.1 h]; exact ⟨rfl, fun j hj => by simp at hj⟩
  | .cons t ts, d, us, hi, h => by
    obtain ⟨u, r, rfl, h1, h2⟩ := RTs_cons.1 h
    have hi' : (t.isInt && ts.ints) = true := hi
    rw [Bool.and_eq_true] at hi'
    obtain ⟨ih1, ih2⟩ := ints_get hi'.2 h2
    refine ⟨by simp [ih1, Tys.len], fun j hj => ?_⟩
    cases j with
    | zero =>
      cases t with
      | int k => exact ⟨k, d.1, congrArg some (show u = .int k d.1 from h1)⟩
      | _ => cases hi'.1
    | succ j => exact ih2 j (by simpa using hj)
theorem check_run {kt : TypeId} {tk : Ty} (h : okKey P kt tk = true) {d : tk.D} {x : Value} (hx : RT M tk d x) (em : Bool) : (Instr.checkKey em 10000 kt x).run P w = .ok () w := by
  rcases okKey_cases h with ⟨k, rfl, hk⟩ | ⟨ts, fs, rfl, ht, hs, hf, hp, hi⟩
  · have e1 : x = .int k d := hx
    subst e1
    unfold Instr.checkKey
    simp [Sem.run_bind, run_underlying hk, Result.andThen]
  · obtain ⟨us, rfl, h1, _⟩ := RT_agg.1 hx
    obtain ⟨g1, g2⟩ := ints_get hi h1
    have := check_fields (P := P) (w := w) (us := us) fs.toList 0 em 9998 hf (fun j _ hj => g2 j (by rw [g1, ← hs]; simpa using hj))
    rw [show (10000 : Nat) = 9999 + 1 from rfl, Instr.checkKey]
    simp only [Sem.run_bind, run_underlying ht, Result.andThen_ok]
    rw [← Array.forIn_toList]
    simp only [this, Result.andThen_ok]
    simp
/-- Entries, one by one. -/
def EntsOk (M : Mem) (tk tv : Ty) (es : List (tk.D × tv.D × Unit)) (xs : List MapEntry) : Prop := xs.length = es.length ∧ ∀ (i : Nat) (e : tk.D × tv.D × Unit) (x : MapEntry), es[i]? = some e → xs[i]? = some x → RT M tk e.1 x.key ∧ RT M tv e.2.1 x.val
theorem EntsOk.tail {tk tv : Ty} {e : tk.D × tv.D × Unit} {es : List (tk.D × tv.D × Unit)} {x : MapEntry} {xs : List MapEntry} (h : EntsOk M tk tv (e :: es) (x :: xs)) : RT M tk e.1 x.key ∧ RT M tv e.2.1 x.val ∧ EntsOk M tk tv es xs :=
  ⟨(h.2 0 e x rfl rfl).1, (h.2 0 e x rfl rfl).2, by simpa using h.1, fun i e' x' h1 h2 => h.2 (i + 1) e' x' h1 h2⟩
/-- The place of the first entry of a key. -/
def placeOf {α β : Type} (eq : α → α → Bool) (k : α) : List (α × β × Unit) → List MapEntry → Nat → Option (Nat × Value)
  | e :: r, x :: xs, i => bif eq k e.1 then some (i, x.val) else placeOf eq k r xs (i + 1)
  | _, _, _ => none
theorem find_asking {kt : TypeId} {tk tv : Ty} (h : okKey P kt tk = true) {d : tk.D} {key : Value} (hx : RT M tk d key) : ∀ (es : List (tk.D × tv.D × Unit)) (xs : List MapEntry) (i : Nat), EntsOk M tk tv es xs →
    (Instr.findAsking kt key xs i).run P w = .ok (placeOf tk.keq d es xs i) w
  | [], [], i, _ => by simp [Instr.findAsking, placeOf]
  | [], x :: xs, i, he => by have := he.1; simp at this
  | e :: es, [], i, he => by have := he.1; simp at this
  | e :: es, x :: xs, i, he => by
    obtain ⟨h1, h2, h3⟩ := he.tail
    have ih := find_asking h hx es xs (i + 1) h3
    simp only [Instr.findAsking, Sem.run_bind, key_run h hx h1, Result.andThen_ok, placeOf]
    cases tk.keq d e.1 with
    | true => simp
    | false => simpa using ih
theorem find_now {k : IntKind} {tv : Ty} {d : Int} : ∀ (es : List ((Ty.int k).D × tv.D × Unit)) (xs : List MapEntry) (i : Nat), EntsOk M (.int k) tv es xs →
    Instr.findNow (.int k) (.int k d) xs i = some (placeOf (Ty.int k).keq d es xs i)
  | [], [], i, _ => by simp [Instr.findNow, placeOf]
  | [], x :: xs, i, he => by have := he.1; simp at this
  | e :: es, [], i, he => by have := he.1; simp at this
  | e :: es, x :: xs, i, he => by
    obtain ⟨h1, h2, h3⟩ := he.tail
    have e1 : x.key = .int k e.1 := h1
    have ih := find_now (d := d) es xs (i + 1) h3
    simp only [Instr.findNow, e1, Instr.sameNow, if_true, placeOf]
    show (match some (eqI d e.1) with
      | some true => some (some (i, x.val))
      | some false => Instr.findNow (.int k) (.int k d) xs (i + 1)
      | none => none) = some (bif eqI d e.1 then some (i, x.val) else _)
    cases eqI d e.1 with
    | true => rfl
    | false => exact ih
theorem find_run {kt : TypeId} {tk tv : Ty} (h : okKey P kt tk = true) {d : tk.D} {key : Value} (hx : RT M tk d key) {es : List (tk.D × tv.D × Unit)} {xs : List MapEntry} (he : EntsOk M tk tv es xs) :
    (Instr.findKey kt key xs).run P w = .ok (placeOf tk.keq d es xs 0) w := by
  rcases okKey_cases h with ⟨k, rfl, hk⟩ | ⟨ts, fs, rfl, ht, _⟩
  · have e1 : key = .int k d := hx
    subst e1
    have hn : Instr.findNow (.int k) (.int k d) xs 0 = some (placeOf (Ty.int k).keq d es xs 0) := find_now es xs 0 he
    simp only [Instr.findKey, Sem.run_bind, run_underlying hk, Result.andThen_ok]
    rw [hn]
    simp
  · cases xs with
    | nil =>
      have : es = [] := List.eq_nil_of_length_eq_zero he.1.symm
      subst this
      simp [Instr.findKey, Sem.run_bind, run_underlying ht, Instr.findNow, placeOf]
    | cons x xs =>
      have hn : Instr.findNow (.struct fs) key (x :: xs) 0 = none := by
        unfold Instr.findNow
        have : Instr.sameNow (.struct fs) key x.key = none := rfl
        rw [this]
      simp only [Instr.findKey, Sem.run_bind, run_underlying ht, Result.andThen_ok, hn]
      exact find_asking h hx es (x :: xs) 0 he
/-- Where the place is, and what is found there. -/
theorem place_spec {tk tv : Ty} {d : tk.D} : ∀ (es : List (tk.D × tv.D × Unit)) (xs : List MapEntry) (i : Nat), EntsOk M tk tv es xs →
    (placeOf tk.keq d es xs i = none ∧ findEnt tk.keq d es = none ∧ ∀ v : tv.D, setEnt tk.keq d v es = es ++ [(d, v, ())]) ∨
    ∃ (j : Nat) (x : MapEntry) (e : tk.D × tv.D × Unit), placeOf tk.keq d es xs i = some (i + j, x.val) ∧ xs[j]? = some x ∧ es[j]? = some e ∧ tk.keq d e.1 = true ∧ findEnt tk.keq d es = some e.2.1 ∧ ∀ v : tv.D, setEnt tk.keq d v es = es.set j (d, v, ())
  | [], [], i, _ => .inl ⟨rfl, rfl, fun _ => rfl⟩
  | [], x :: xs, i, he => by have := he.1; simp at this
  | e :: es, [], i, he => by have := he.1; simp at this
  | e :: es, x :: xs, i, he => by
    obtain ⟨h1, h2, h3⟩ := he.tail
    cases hk : tk.keq d e.1 with
    | true =>
      exact .inr ⟨0, x, e, by simp only [placeOf, hk]; rfl, rfl, rfl, hk, by simp only [findEnt, hk]; rfl, fun v => by simp only [setEnt, hk]; rfl⟩
    | false =>
      rcases place_spec (d := d) es xs (i + 1) h3 with ⟨q1, q2, q3⟩ | ⟨j, y, e', q1, q2, q3, q4, q5, q6⟩
      · exact .inl ⟨by simp only [placeOf, hk]; exact q1, by simp only [findEnt, hk]; exact q2, fun v => by simp only [setEnt, hk]; rw [cond_false, q3 v]; rfl⟩
      · exact .inr ⟨j + 1, y, e', by simp only [placeOf, hk]; rw [cond_false, q1]; congr 2; omega, q2, q3, q4, by simp only [findEnt, hk]; exact q5, fun v => by simp only [setEnt, hk]; rw [cond_false, q6 v]; rfl⟩
/-- An equal key is the key itself. -/
theorem sameBits_int (n : Nat) (k : IntKind) (d : Int) : Instr.sameBits n (.int k d) (.int k d) = true := by
  cases n <;> simp [Instr.sameBits]
theorem stays_run {kt : TypeId} {tk : Ty} (h : okKey P kt tk = true) {d : tk.D} {x : Value} (hx : RT M tk d x) : (Instr.keyThatStays x x).run P w = .ok x w := by
  rcases okKey_cases h with ⟨k, rfl, hk⟩ | ⟨ts, fs, rfl, ht, hs, hf, hp, hi⟩
  · have e1 : x = .int k d := hx
    subst e1
    have hsb := sameBits_int 10000 k d
    simp only [Instr.keyThatStays, hsb, if_true]
    rfl
  · obtain ⟨us, rfl, h1, _⟩ := RT_agg.1 hx
    obtain ⟨g1, g2⟩ := ints_get hi h1
    have hsb : Instr.sameBits 10000 (.agg us.toArray) (.agg us.toArray) = true := by
      show Instr.sameBits (9999 + 1) (.agg us.toArray) (.agg us.toArray) = true
      simp only [Instr.sameBits, beq_self_eq_true, Bool.true_and, List.all_eq_true]
      intro p hp
      obtain ⟨i, hi, e⟩ := List.getElem_of_mem hp
      rw [List.getElem_zip] at e
      rw [← e]
      have hil : i < us.length := by simpa using hi
      obtain ⟨k, y, hy⟩ := g2 i hil
      have hy2 : us[i] = .int k y := by
        rw [List.getElem?_eq_getElem hil] at hy
        exact Option.some.inj hy
      simp only [hy2]
      exact sameBits_int 9999 k y
    simp [Instr.keyThatStays, hsb]
theorem EntsOk.push {tk tv : Ty} {es : List (tk.D × tv.D × Unit)} {xs : List MapEntry} (h : EntsOk M tk tv es xs) {d : tk.D} {e : tv.D} {x : MapEntry} (hx : RT M tk d x.key) (hv : RT M tv e x.val) : EntsOk M tk tv (es ++ [(d, e, ())]) (xs ++ [x]) := by
  refine ⟨by simp [h.1], fun i e' x' h1 h2 => ?_⟩
  have hl := h.1
  rcases Nat.lt_or_ge i es.length with hi | hi
  · rw [List.getElem?_append_left hi] at h1
    rw [List.getElem?_append_left (by omega)] at h2
    exact h.2 i e' x' h1 h2
  · rw [List.getElem?_append_right hi] at h1
    rw [List.getElem?_append_right (by omega), hl] at h2
    cases hj : i - es.length with
    | zero =>
      rw [hj] at h1 h2
      simp at h1 h2
      subst h1; subst h2
      exact ⟨hx, hv⟩
    | succ j => rw [hj] at h1; simp at h1
theorem EntsOk.set {tk tv : Ty} {es : List (tk.D × tv.D × Unit)} {xs : List MapEntry} (h : EntsOk M tk tv es xs) {j : Nat} {d : tk.D} {e : tv.D} {x : MapEntry} (hx : RT M tk d x.key) (hv : RT M tv e x.val) : EntsOk M tk tv (es.set j (d, e, ())) (xs.set j x) := by
  refine ⟨by simp [h.1], fun i e' x' h1 h2 => ?_⟩
  rw [List.getElem?_set] at h1 h2
  split at h1
  · rename_i hj
    rw [if_pos hj] at h2
    split at h1
    · split at h2
      · cases h1; cases h2
        exact ⟨hx, hv⟩
      · cases h2
    · cases h1
  · rename_i hj
    rw [if_neg hj] at h2
    exact h.2 i e' x' h1 h2
theorem modify_set {α : Type} (f : α → α) : ∀ (l : List α) (j : Nat) (e : α), l[j]? = some e → l.modify j f = l.set j (f e)
  | [], _, _, h => by simp at h
  | a :: r, 0, e, h => by simp at h; subst h; simp [List.modify]
  | a :: r, j + 1, e, h => by simpa using modify_set f r j e (by simpa using h)
/-- An entry is laid into a map. -/
theorem set_run {t kt et : TypeId} {tk tv : Ty} (ht : P.underlying t = some (.map kt et)) (hk : okKey P kt tk = true) {b : Nat} {ents : Array MapEntry} {clock : Nat} (hb : w.heap[b]? = some (.map ents clock)) {es : List (tk.D × tv.D × Unit)} (he : EntsOk M tk tv es ents.toList)
    {d : tk.D} {e : tv.D} {key val : Value} (hx : RT M tk d key) (hv : RT M tv e val) :
    ∃ (ents' : Array MapEntry) (clock' : Nat), (Instr.mapUpdate t (.map (some b)) key val).run P w = .ok () { w with heap := w.heap.setIfInBounds b (.map ents' clock') } ∧ EntsOk M tk tv (setEnt tk.keq d e es) ents'.toList := by
  have hf := find_run (w := w) hk hx he
  rcases place_spec (d := d) es ents.toList 0 he with ⟨q1, q2, q3⟩ | ⟨j, x, e', q1, q2, q3, q4, q5, q6⟩
  · rw [q1] at hf
    refine ⟨ents.push ⟨key, val, clock⟩, clock + 1, ?_, ?_⟩
    · simp [Instr.mapUpdate, run_underlying ht, MapKept.run_getObj_map hb, check_run (w := w) hk hx, hf, MapKept.run_setObj_map _ hb, Result.andThen]
    · rw [q3, Array.toList_push]
      exact he.push hx hv
  · rw [q1] at hf
    have hkey : key = x.key := (key_same hk hx (he.2 j e' x q3 q2).1).1 q4
    have hj : ents[j]? = some x := by simpa using q2
    refine ⟨ents.modify j (fun e'' => { e'' with key := key, val := val }), clock, ?_, ?_⟩
    · simp [Instr.mapUpdate, run_underlying ht, MapKept.run_getObj_map hb, check_run (w := w) hk hx, hf, hj, ← hkey, stays_run (w := w) hk hx, MapKept.run_setObj_map _ hb, Result.andThen]
    · rw [q6, Array.toList_modify, modify_set _ _ _ _ q2]
      exact he.set hx hv
/-- What is found in a map. -/
theorem get_run {t kt et : TypeId} {tk tv : Ty} (ht : P.underlying t = some (.map kt et)) (hk : okKey P kt tk = true) {b : Nat} {ents : Array MapEntry} {clock : Nat} (hb : w.heap[b]? = some (.map ents clock)) {es : List (tk.D × tv.D × Unit)} (he : EntsOk M tk tv es ents.toList)
    {d : tk.D} {z : tv.D} {key zv : Value} (hx : RT M tk d key) (hz : (zeroValue et).run P w = .ok zv w) (hzr : RT M tv z zv) (ok : Bool) :
    ∃ x, (Instr.lookup t (.map (some b)) key ok).run P w = .ok (bif ok then .tuple #[x, .bool (findEnt tk.keq d es).isSome] else x) w ∧ RT M tv ((findEnt tk.keq d es).getD z) x := by
  have hf := find_run (w := w) hk hx he
  rcases place_spec (d := d) es ents.toList 0 he with ⟨q1, q2, q3⟩ | ⟨j, x, e', q1, q2, q3, q4, q5, q6⟩
  · rw [q1] at hf
    refine ⟨zv, ?_, by rw [q2]; exact hzr⟩
    rw [q2]
    simp [Instr.lookup, run_underlying ht, MapKept.run_getObj_map hb, check_run (w := w) hk hx, hf, hz, Result.andThen, Bool.cond_eq_ite]
  · rw [q1] at hf
    refine ⟨x.val, ?_, by rw [q5]; exact (he.2 j e' x q3 q2).2⟩
    rw [q5]
    simp [Instr.lookup, run_underlying ht, MapKept.run_getObj_map hb, check_run (w := w) hk hx, hf, Result.andThen, Bool.cond_eq_ite]
section
variable {o : Oper}
theorem ok_mkm {ar : Nat} (h : okOp P o.op (.mkm ar) = true) : ∃ t, o.op = .makeMap t none := by
  cases hp : o.op <;> rw [hp] at h <;> simp only [okOp, Bool.false_eq_true] at h
  rename_i t r
  rw [Bool.and_eq_true] at h
  cases r with
  | none => exact ⟨t, rfl⟩
  | some r => cases h.1
theorem ok_mset {tk tv : Ty} {x k v : A} (h : okOp P o.op (.mset tk tv x k v) = true) : ∃ t kt et x' k' v', o.op = .mapUpdate t x' k' v' ∧ okA x' x = true ∧ okA k' k = true ∧ okA v' v = true ∧ P.underlying t = some (.map kt et) ∧ okKey P kt tk = true := by
  cases hp : o.op <;> rw [hp] at h <;> simp only [okOp, Bool.false_eq_true, Bool.and_eq_true] at h
  obtain ⟨⟨⟨h1, h2⟩, h3⟩, h4⟩ := h
  split at h4
  · rename_i kt et ht
    exact ⟨_, kt, et, _, _, _, rfl, h1, h2, h3, ht, h4⟩
  · cases h4
theorem ok_mget {tk tv : Ty} {zero : V} {ok : Bool} {x k : A} (h : okOp P o.op (.mget tk tv zero ok x k) = true) : ∃ t kt et x' k' i z, o.op = .lookup t x' k' ok ∧ okA x' x = true ∧ okA k' k = true ∧ P.underlying t = some (.map kt et) ∧ okKey P kt tk = true ∧
    P.info? et = some i ∧ i.zero = some z ∧ okVs z.cells.toList zero.cells = true ∧ shaped zero z = true := by
  cases hp : o.op <;> rw [hp] at h <;> simp only [okOp, Bool.false_eq_true, Bool.and_eq_true, beq_iff_eq] at h
  obtain ⟨⟨⟨h1, h2⟩, h3⟩, h4⟩ := h
  subst h3
  split at h4
  · rename_i kt et ht
    simp only [Bool.and_eq_true] at h4
    obtain ⟨h4, h5⟩ := h4
    split at h5
    · rename_i i hi
      split at h5
      · rename_i z hz
        simp only [Bool.and_eq_true] at h5
        exact ⟨_, kt, et, _, _, i, z, rfl, h1, h2, ht, h4, hi, hz, h5.1, h5.2⟩
      · cases h5
    · cases h5
  · cases h4
end
/-! ### Maps in the state -/
section
variable {M0 : Mem} {w0 : World} {G : Gh} {ts : List (Array Value)} {s : St}
/-- Where a map of an arena lies. -/
theorem SR.mapAt (h : SR M0 w0 M G ts w s) {a : Nat} {tk tv : Ty} {xs : List (List (tk.D × tv.D × Unit))} (ha : get s.ars a = some (.mp tk tv xs)) {k : Int} {es : List (tk.D × tv.D × Unit)} (hk : std.idx xs k = some es) {lo len : Int} {v : Value} (hv : RRef M (.mp a) k lo len v) :
    ∃ (i b c : Nat) (ents : Array MapEntry) (clock : Nat), k = i ∧ xs[i]? = some es ∧ v = .map (some b) ∧ M.refs a i = some (b, c) ∧ w0.heap.size ≤ b ∧ w.heap[b]? = some (.map ents clock) ∧ EntsOk M tk tv es ents.toList := by
  have hk : (if 0 ≤ k then xs[k.toNat]? else none) = some es := hk
  split at hk
  · rename_i h0
    obtain ⟨i, rfl⟩ : ∃ i : Nat, k = i := ⟨k.toNat, by omega⟩
    rw [Int.toNat_natCast] at hk
    rcases hv with ⟨hn, _⟩ | ⟨b', c', h1, rfl⟩
    · omega
    · obtain ⟨b, c, ents, clock, q1, q2, q3, q4, q5⟩ := h.marks.2.map a tk tv xs ha i es hk
      rw [h1] at q1
      cases q1
      exact ⟨i, b', c', ents, clock, rfl, hk, rfl, h1, q2, q3, by simpa using q4, fun j e x hj hx => q5 j e x hj (by simpa using hx)⟩
  · cases hk
/-- A new map. -/
theorem SR.newMap (h : SR M0 w0 M G ts w s) {a : Nat} {tk tv : Ty} {xs : List (List (tk.D × tv.D × Unit))} (ha : get s.ars a = some (.mp tk tv xs)) :
    SR M0 w0 { M with refs := fun a' k => if a' = a ∧ k = (xs.length : Int) then some (w.heap.size, 0) else M.refs a' k } G ts (w.alloc (.map #[] 0)) { s with ars := put s.ars a (.mp tk tv (xs ++ [[]])) } := by
  have he := alloc_ext' h.ext.ok (.map #[] 0)
  have hnone : M.refs a xs.length = none := by
    cases hr : M.refs a xs.length with
    | none => rfl
    | some x =>
      obtain ⟨_, ar, h1, h2⟩ := h.marks.2.refs a _ x hr
      rw [ha] at h1
      cases h1
      have h2 : (xs.length : Int) < (xs.length : Nat) := h2
      omega
  have hsub : Sub M { M with refs := fun a' k => if a' = a ∧ k = (xs.length : Int) then some (w.heap.size, 0) else M.refs a' k } := ⟨fun _ _ e => e, fun a' k x e => by
    show (if a' = a ∧ k = (xs.length : Int) then some (w.heap.size, 0) else M.refs a' k) = some x
    rw [if_neg]
    · exact e
    · rintro ⟨rfl, rfl⟩
      rw [hnone] at e
      cases e⟩
  have hsz : (w.alloc (.map #[] 0)).heap.size = w.heap.size + 1 := World.size_alloc _ _
  obtain ⟨k1, k2⟩ := h.still (w' := w.alloc (.map #[] 0)) (fun b o ho _ => (heap_alloc_old w _ b (lt_of_heap ho)).trans ho)
  refine ⟨ExtS.make h.ext.tab h.ext.same he.ok.cell he.ok.old (h.ext.below.trans (he.below.mono h.old)) (fun a k x e => hsub.ref a k x (h.ext.refs a k x e)) (fun a' k b c e => ?_), h.frames.imp (fun d u hd => hd.sub hsub), fun id cs hc => ?_, fun id v hv => ?_, k1, h.recs, h.inj, k2.1, ?_⟩
  · have e : (if a' = a ∧ k = (xs.length : Int) then some (w.heap.size, 0) else M.refs a' k) = some (b, c) := e
    split at e
    · cases e; omega
    · have := h.ext.ok.oldR a' k b c e; omega
  · exact (h.boxes id cs hc).upd' hsub rfl (fun b ho hlt _ => ⟨heap_alloc_old w _ b hlt, rfl, fun _ _ => rfl⟩) (fun d u hu => hu.sub hsub)
  · obtain ⟨row, h1, h2, h3⟩ := h.rows id v hv
    exact ⟨row, h1, h2, h3.upd hsub (fun b ho hlt => ⟨heap_alloc_old w _ b hlt, ho, fun _ _ => rfl⟩)⟩
  · refine ⟨fun a' tk' tv' xs' ha' k es hes => ?_, fun a' k x hx => ?_, fun a1 a2 k1 k2 b c1 c2 e1 e2 => ?_⟩
    · by_cases hne : a' = a
      · subst hne
        have ha' : get (put s.ars a' (.mp tk tv (xs ++ [[]]))) a' = some (.mp tk' tv' xs') := ha'
        rw [get_put_same] at ha'
        cases ha'
        rcases Nat.lt_or_ge k xs.length with hlt | hge
        · rw [List.getElem?_append_left hlt] at hes
          obtain ⟨b, c, ents, clock, q1, q2, q3, q4, q5⟩ := k2.2.map a' tk tv xs ha k es hes
          exact ⟨b, c, ents, clock, hsub.ref _ _ _ q1, q2, q3, q4, fun i e x he hx => ⟨RT.sub hsub _ _ _ (q5 i e x he hx).1, RT.sub hsub _ _ _ (q5 i e x he hx).2⟩⟩
        · rw [List.getElem?_append_right hge] at hes
          cases hj : k - xs.length with
          | zero =>
            rw [hj] at hes
            simp at hes
            subst hes
            have : k = xs.length := by omega
            subst this
            exact ⟨w.heap.size, 0, #[], 0, if_pos ⟨rfl, rfl⟩, h.old, heap_alloc_new w _, rfl, fun i e x he _ => by simp at he⟩
          | succ j => rw [hj] at hes; simp at hes
      · have ha' : get (put s.ars a (.mp tk tv (xs ++ [[]]))) a' = some (.mp tk' tv' xs') := ha'
        rw [get_put_ne _ _ hne] at ha'
        obtain ⟨b, c, ents, clock, q1, q2, q3, q4, q5⟩ := k2.2.map a' tk' tv' xs' ha' k es hes
        exact ⟨b, c, ents, clock, hsub.ref _ _ _ q1, q2, q3, q4, fun i e x he hx => ⟨RT.sub hsub _ _ _ (q5 i e x he hx).1, RT.sub hsub _ _ _ (q5 i e x he hx).2⟩⟩
    · have hx : (if a' = a ∧ k = (xs.length : Int) then some (w.heap.size, 0) else M.refs a' k) = some x := hx
      split at hx
      · rename_i hc
        obtain ⟨rfl, rfl⟩ := hc
        refine ⟨by omega, _, get_put_same _ _ _, ?_⟩
        show (xs.length : Int) < ((xs ++ [[]]).length : Nat)
        simp
        omega
      · obtain ⟨h0, ar, h1, h2⟩ := h.marks.2.refs a' k x hx
        refine ⟨h0, ?_⟩
        by_cases hne : a' = a
        · subst hne
          rw [ha] at h1
          cases h1
          refine ⟨_, get_put_same _ _ _, ?_⟩
          have h2 : k < (xs.length : Nat) := h2
          show k < ((xs ++ [[]]).length : Nat)
          simp
          omega
        · exact ⟨ar, (get_put_ne _ _ hne).trans h1, h2⟩
    · have e1 : (if a1 = a ∧ k1 = (xs.length : Int) then some (w.heap.size, 0) else M.refs a1 k1) = some (b, c1) := e1
      have e2 : (if a2 = a ∧ k2 = (xs.length : Int) then some (w.heap.size, 0) else M.refs a2 k2) = some (b, c2) := e2
      split at e1
      · rename_i hc1
        split at e2
        · rename_i hc2
          exact ⟨hc1.1.trans hc2.1.symm, hc1.2.trans hc2.2.symm⟩
        · cases e1
          have := h.ext.ok.oldR _ _ _ _ e2
          omega
      · split at e2
        · cases e2
          have := h.ext.ok.oldR _ _ _ _ e1
          omega
        · exact h.marks.2.inj a1 a2 k1 k2 b c1 c2 e1 e2
/-- A map turns. -/
theorem SR.setMap (h : SR M0 w0 M G ts w s) {a : Nat} {tk tv : Ty} {xs : List (List (tk.D × tv.D × Unit))} (ha : get s.ars a = some (.mp tk tv xs)) {k b c : Nat} {es' : List (tk.D × tv.D × Unit)} {ents ents' : Array MapEntry} {cl cl' : Nat}
    (hr : M.refs a k = some (b, c)) (hB : w0.heap.size ≤ b) (hb : w.heap[b]? = some (.map ents cl)) (he : EntsOk M tk tv es' ents'.toList) :
    SR M0 w0 M G ts { w with heap := w.heap.setIfInBounds b (.map ents' cl') } { s with ars := put s.ars a (.mp tk tv (xs.set k es')) } := by
  let w' : World := { w with heap := w.heap.setIfInBounds b (.map ents' cl') }
  have hw1 : ∀ j, j ≠ b → w'.heap[j]? = w.heap[j]? := (MapKept.heap_set hb).2
  have hw2 : w'.heap[b]? = some (.map ents' cl') := (MapKept.heap_set hb).1
  have hsz : w'.heap.size = w.heap.size := by simp [w']
  have hc : ∀ ad v, w.cell? ad = some v → w'.cell? ad = some v := fun ad v hv => by
    by_cases hj : ad.block = b
    · unfold World.cell? at hv
      rw [hj, hb] at hv
      cases hv
    · unfold World.cell? at hv ⊢
      rw [hw1 _ hj]; exact hv
  have hk : ∀ (j : Nat) (o : Obj), w.heap[j]? = some o → (∀ e q, o ≠ .map e q) → w'.heap[j]? = some o := fun j o ho hn => (hw1 j (fun q => by rw [q, hb] at ho; cases ho; exact hn _ _ rfl)).trans ho
  refine ⟨ExtS.make h.ext.tab h.ext.same (fun ad v hv => hc ad v (h.ext.ok.cell ad v hv)) (fun ad v hv => by rw [hsz]; exact h.ext.ok.old ad v hv) (h.ext.below.trans ⟨rfl, rfl, rfl, by rw [hsz]; exact Nat.le_refl _, fun j hj => hw1 j (by omega)⟩) h.ext.refs (fun a k b c e => by rw [hsz]; exact h.ext.ok.oldR a k b c e), h.frames, fun id cs hc => ?_, fun id v hv => ?_, fun lvl ps hl => ?_, h.recs, h.inj, fun j hh hm => ⟨(h.marks.1 j hh hm).1, hk j _ (h.marks.1 j hh hm).2 (by simp)⟩, ?_⟩
  · exact (h.boxes id cs hc).upd' (Sub.refl M) rfl (fun j ho hlt hcl => by
      obtain ⟨q1, q2, q3, q4⟩ := hcl
      exact ⟨(hk j _ q4 (by simp)).trans q4.symm, rfl, fun _ _ => rfl⟩) (fun d u hu => hu)
  · obtain ⟨row, h1, h2, h3⟩ := h.rows id v hv
    refine ⟨row, h1, h2, ?_⟩
    exact h3.upd' (Sub.refl M) (fun j ho hlt hcl => by
      obtain ⟨q1, q2, q3, q4⟩ := hcl
      exact ⟨(hk j _ q4 (by simp)).trans q4.symm, ho, fun _ _ => rfl⟩)
  · obtain ⟨l, r, h', k1, k2⟩ := h.loops lvl ps hl
    exact ⟨l, r, h', k1, hk l _ k2 (by simp)⟩
  · refine ⟨fun a' tk' tv' xs' ha' k' es hes => ?_, fun a' k' x hx => ?_, h.marks.2.inj⟩
    · by_cases hne : a' = a
      · subst hne
        have ha' : get (put s.ars a' (.mp tk tv (xs.set k es'))) a' = some (.mp tk' tv' xs') := ha'
        rw [get_put_same] at ha'
        cases ha'
        rw [List.getElem?_set] at hes
        split at hes
        · rename_i hkk
          subst hkk
          split at hes
          · cases hes
            exact ⟨b, c, ents', cl', hr, hB, hw2, by simpa using he.1, fun i e x hi hx => he.2 i e x hi (by simpa using hx)⟩
          · cases hes
        · rename_i hkk
          obtain ⟨b2, c2, ents2, clock2, q1, q2, q3, q4, q5⟩ := h.marks.2.map a' tk tv xs ha k' es hes
          refine ⟨b2, c2, ents2, clock2, q1, q2, (hw1 b2 ?_).trans q3, q4, q5⟩
          rintro rfl
          have := (h.marks.2.inj a' a' _ _ _ _ _ hr q1).2
          omega
      · have ha' : get (put s.ars a (.mp tk tv (xs.set k es'))) a' = some (.mp tk' tv' xs') := ha'
        rw [get_put_ne _ _ hne] at ha'
        obtain ⟨b2, c2, ents2, clock2, q1, q2, q3, q4, q5⟩ := h.marks.2.map a' tk' tv' xs' ha' k' es hes
        refine ⟨b2, c2, ents2, clock2, q1, q2, (hw1 b2 ?_).trans q3, q4, q5⟩
        rintro rfl
        exact hne (h.marks.2.inj a a' _ _ _ _ _ hr q1).1.symm
    · obtain ⟨h0, ar, h1, h2⟩ := h.marks.2.refs a' k' x hx
      refine ⟨h0, ?_⟩
      by_cases hne : a' = a
      · subst hne
        rw [ha] at h1
        cases h1
        refine ⟨_, get_put_same _ _ _, ?_⟩
        have h2 : k' < (xs.length : Nat) := h2
        show k' < ((xs.set k es').length : Nat)
        simpa using h2
      · exact ⟨ar, (get_put_ne _ _ hne).trans h1, h2⟩
end
end Go.Evl
