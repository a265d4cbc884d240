/-
  A value semantics for the program's code, part 10: all operations that turn nothing in one theorem.
  Conditions: none; this text holds definitions and lemmas of their own.
-/
import Derived.Test.YtbcihiehcekheaaDoorEv9
namespace Go.Evl
open Go Go.RowKit
set_option linter.unusedVariables false
set_option linter.unusedSimpArgs false

section
variable {P : Program} {o : Oper} {a : Act} {w : World} {M : Mem} {G : Gh} {B : Nat} {cf : FuncId → List V → Option V} {rd : A → D} {bx : Nat → Option (List D)} {d : D}

theorem g_sstr (hm : Ok M w) {t : TypeId} {x : A} {x' : Operand} {lo hi : Option A} {lo' hi' : Option Operand} {l h : Option Int} {s r : ByteArray} (hop : o.op = .slice t x' lo' hi' none) (h1 : okA x' x = true)
    (h2 : okAo lo' lo = true) (h3 : okAo hi' hi = true) (h5 : P.underlying t = some .string)
    (hr : Reads M G a rd (x.tmps ++ tmpsO lo ++ tmpsO hi)) (hl : optI rd lo = some l) (hh : optI rd hi = some h) (hx : rd x = .p (.str s)) (he : std.sslc s l h = some r) : Gives P M G w (.p (.str r)) (execOp a.eval o) := by
  have hlo := opt_run h2 (hr.mono (fun t ht => by simp [ht])) hl
  have hhi := opt_run h3 (hr.mono (fun t ht => by simp [ht])) hh
  have hxv := opd h1 (hr.mono (fun t ht => by simp [ht]))
  rw [hx] at hxv
  have hv := RD_str hxv
  simp only [std] at he
  split at he
  · rename_i L H hL hH
    split at he
    · rename_i hc
      cases he
      have hb : (Instr.sliceBounds false s.size s.size (lo'.map a.eval) (hi'.map a.eval) none).run P w = .ok (L, H, s.size) w := by
        rcases hlo with ⟨rfl, rfl⟩ | ⟨yl, kl, ml, rfl, rfl, hel⟩ <;> rcases hhi with ⟨rfl, rfl⟩ | ⟨yh, kh, mh, rfl, rfl, heh⟩ <;> simp only [boundOr, Option.some.injEq] at hL hH
        · subst hL; subst hH; simp [Instr.sliceBounds]
        · subst hL
          have := sliceBound_run (P := P) (k := kh) hH hc.2 .sliceAlen w
          simp [Instr.sliceBounds, heh, this]
        · subst hH
          have := sliceBound_run (P := P) (k := kl) hL hc.1 .sliceB w
          simp [Instr.sliceBounds, hel, this]
        · have e1 := sliceBound_run (P := P) (k := kh) hH hc.2 .sliceAlen w
          have e2 := sliceBound_run (P := P) (k := kl) hL hc.1 .sliceB w
          simp [Instr.sliceBounds, heh, hel, e1, e2]
      refine g_same hm (v := .string (s.extract L H)) ?_ (show RD M G (.p _) _ from R_str' M _)
      simp [execOp, hop, Instr.sliceAt, Instr.slice, Sem.run_bind, run_underlying h5, hv, hb]
    · cases he
  · cases he

variable {F : Fence} {n : Nat} {K : Act → World → Prop} {Q : Exit → Act → World → Prop}

/-- A call of a function by its contents. -/
theorem s_calls (hF : WideF F) (hcf : CfOk P cf) (hm : Ok M w) {f : FuncId} {as : List A} {vs caps : List V} {us : List Value} {r : V} {c : Call} {fo : Operand} (hop : o.op = .call c) (hc : c.callee = .value fo)
    (hfo : a.eval fo = .func (.func f) #[] us.toArray) (hus : RL M caps us) (h1 : okAs c.args.toList as = true) (hr : Reads M G a rd (tmpsL as)) (hv : allV (as.map rd) = some vs) (he : cf f (vs ++ caps) = some r)
    (hK : ∀ v M' w', Ext M w M' w' → RD M' G (.p r) v → K (a.put o.dst v) w') : o.wpIn F n P a w K Q := by
  obtain ⟨hth, hs⟩ := hcf.calls f _ r he
  have hargs := opds h1 hr hv
  have hcall := hs M w (c.args.toList.map a.eval ++ us) hm (hargs.append hus)
  refine wpIn_enter hF (fun c' hc' => by rw [hop] at hc'; cases hc') (f := f) (args := (c.args.toList.map a.eval ++ us).toArray) (w' := w) ?_ (hcall.mono ?_)
  · have e : (c.args.toList.map a.eval ++ us).toArray = c.args.map a.eval ++ us.toArray := by
      apply Array.ext'
      simp
    rw [e]
    simp [execOp, hop, hc, resolve, hfo, Deferred.ofValue, invoke, run_callFunc hth]
  · rintro e w' ⟨v, M', rfl, hv, hx⟩
    exact ⟨v, rfl, hK v M' w' hx hv⟩

theorem pv_some {x : Option V} {d : D} (h : pv x = some d) : ∃ v, x = some v ∧ d = .p v := by
  unfold pv at h
  split at h
  · rename_i v; cases h; exact ⟨v, rfl, rfl⟩
  · cases h

/-- From a reading to the machine's step. -/
theorem gives_wp (hF : WideF F) (hd : ∀ c, o.op ≠ .defer c) (h : Gives P M G w d (execOp a.eval o)) (hK : ∀ v M' w', Ext M w M' w' → RD M' G d v → K (a.put o.dst v) w') : o.wpIn F n P a w K Q := by
  obtain ⟨v, M', w', h1, h2, h3⟩ := h
  exact wpIn_val hF hd h1 (hK v M' w' h2 h3)
end

section
variable {P : Program} {p : Op}
theorem ok_mov {y : A} (h : okOp P p (.mov y) = true) : ∃ x, (p = .move x ∨ p = .assign x) ∧ okA x y = true := by
  cases p <;> simp only [okOp, Bool.false_eq_true] at h
  · exact ⟨_, .inl rfl, h⟩
  · exact ⟨_, .inr rfl, h⟩
theorem ok_frz {y : A} (h : okOp P p (.frz y) = true) : ∃ x, (p = .move x ∨ p = .assign x) ∧ okA x y = true := by
  cases p <;> simp only [okOp, Bool.false_eq_true] at h
  · exact ⟨_, .inl rfl, h⟩
  · exact ⟨_, .inr rfl, h⟩
theorem ok_cln {f : FuncId} {sz bytes : Nat} {x : A} (h : okOp P p (.cln f sz bytes x) = true) : ∃ c y, p = .call c ∧ c.callee = .value (.func f) ∧ c.args.toList = [y] ∧ okA y x = true := by
  cases p <;> simp only [okOp, Bool.false_eq_true] at h
  split at h
  · rename_i g y h1 h2
    simp only [Bool.and_eq_true, beq_iff_eq] at h
    obtain ⟨rfl, h⟩ := h
    exact ⟨_, _, rfl, h1, h2, h⟩
  · cases h
theorem ok_bcc {f : FuncId} {x : A} (h : okOp P p (.bcc f x) = true) : ∃ c y, p = .call c ∧ c.callee = .value (.func f) ∧ c.args.toList = [y] ∧ okA y x = true := by
  cases p <;> simp only [okOp, Bool.false_eq_true] at h
  split at h
  · rename_i g y h1 h2
    simp only [Bool.and_eq_true, beq_iff_eq] at h
    obtain ⟨rfl, h⟩ := h
    exact ⟨_, _, rfl, h1, h2, h⟩
  · cases h
theorem ok_bstr {f : FuncId} {x : A} (h : okOp P p (.bstr f x) = true) : ∃ c y, p = .call c ∧ c.callee = .value (.func f) ∧ c.args.toList = [y] ∧ okA y x = true := by
  cases p <;> simp only [okOp, Bool.false_eq_true] at h
  split at h
  · rename_i g y h1 h2
    simp only [Bool.and_eq_true, beq_iff_eq] at h
    obtain ⟨rfl, h⟩ := h
    exact ⟨_, _, rfl, h1, h2, h⟩
  · cases h
theorem ok_clr {zero : V} {x : A} (h : okOp P p (.clr zero x) = true) : ∃ c t e y i z, p = .call c ∧ c.callee = .builtin .clear ∧ c.args.toList = [y] ∧ c.argTypes.toList = [t] ∧ okA y x = true ∧ P.underlying t = some (.slice e) ∧ P.info? e = some i ∧ i.zero = some z ∧ okVs z.cells.toList zero.cells = true ∧ shaped zero z = true := by
  cases p <;> simp only [okOp, Bool.false_eq_true] at h
  split at h
  · rename_i y t h1 h2 h3
    simp only [Bool.and_eq_true] at h
    obtain ⟨h4, h5⟩ := h
    split at h5
    · rename_i e he
      unfold tyElem at he
      split at he
      · rename_i e' he'
        cases he
        split at h5
        · rename_i i hi
          split at h5
          · rename_i z hz
            rw [Bool.and_eq_true] at h5
            exact ⟨_, t, _, y, i, z, rfl, h1, h2, h3, h4, he', hi, hz, h5.1, h5.2⟩
          · cases h5
        · cases h5
      · cases he
    · cases h5
  · cases h
theorem ok_pick {c x y : A} (h : okOp P p (.pick c x y) = true) : ∃ c' x' y', p = .pick c' x' y' ∧ okA c' c = true ∧ okA x' x = true ∧ okA y' y = true := by
  cases p <;> simp only [okOp, Bool.false_eq_true, Bool.and_eq_true] at h
  exact ⟨_, _, _, rfl, h.1.1, h.1.2, h.2⟩
theorem ok_bin {op : BinOp} {x y : A} (h : okOp P p (.bin op x y) = true) : ∃ t t' x' y', p = .binOp op t x' y' t' ∧ okA x' x = true ∧ okA y' y = true := by
  cases p <;> simp only [okOp, Bool.false_eq_true, Bool.and_eq_true, decide_eq_true_eq] at h
  obtain ⟨⟨rfl, h1⟩, h2⟩ := h
  exact ⟨_, _, _, _, rfl, h1, h2⟩
theorem ok_not {y : A} (h : okOp P p (.nott y) = true) : ∃ t x, p = .unOp .not t x ∧ okA x y = true := by
  cases p <;> simp only [okOp, Bool.false_eq_true, Bool.and_eq_true, decide_eq_true_eq] at h
  obtain ⟨rfl, h⟩ := h
  exact ⟨_, _, rfl, h⟩
theorem ok_neg {y : A} (h : okOp P p (.neg y) = true) : ∃ t x, p = .unOp .neg t x ∧ okA x y = true := by
  cases p <;> simp only [okOp, Bool.false_eq_true, Bool.and_eq_true, decide_eq_true_eq] at h
  obtain ⟨rfl, h⟩ := h
  exact ⟨_, _, rfl, h⟩
theorem ok_load {sz : Nat} {ag : Bool} {y : A} (h : okOp P p (.load sz ag y) = true) : ∃ t x, p = .load t x ∧ okA x y = true ∧ tySize P t = some sz ∧ tyAgg P t = some ag := by
  cases p <;> simp only [okOp, Bool.false_eq_true, Bool.and_eq_true, beq_iff_eq] at h
  exact ⟨_, _, rfl, h.1.1, h.1.2, h.2⟩
theorem ok_fa {off : Nat} {y : A} (h : okOp P p (.fa off y) = true) : ∃ t x f fd s, p = .fieldAddr t x f ∧ okA x y = true ∧ tyField P t f = some fd ∧ fd.offset = off ∧ tySize P fd.type = some s ∧ s ≠ 0 := by
  cases p <;> simp only [okOp, Bool.false_eq_true, Bool.and_eq_true] at h
  obtain ⟨h1, h2⟩ := h
  split at h2
  · rename_i fd hfd
    simp only [Bool.and_eq_true, beq_iff_eq] at h2
    obtain ⟨h3, h4⟩ := h2
    split at h4
    · rename_i s hs
      exact ⟨_, _, _, fd, s, rfl, h1, hfd, h3, hs, by simpa using h4⟩
    · cases h4
  · cases h2
theorem ok_fld {off sz : Nat} {ag : Bool} {y : A} (h : okOp P p (.fld off sz ag y) = true) : ∃ t x f fd, p = .field t x f ∧ okA x y = true ∧ tyField P t f = some fd ∧ fd.offset = off ∧ tySize P fd.type = some sz ∧ tyAgg P fd.type = some ag := by
  cases p <;> simp only [okOp, Bool.false_eq_true, Bool.and_eq_true] at h
  obtain ⟨h1, h2⟩ := h
  split at h2
  · rename_i fd hfd
    simp only [Bool.and_eq_true, beq_iff_eq] at h2
    exact ⟨_, _, _, fd, rfl, h1, hfd, h2.1.1, h2.1.2, h2.2⟩
  · cases h2
theorem ok_ia {sz : Nat} {x i : A} (h : okOp P p (.ia sz x i) = true) : ∃ t e x' i', p = .indexAddr t x' i' ∧ okA x' x = true ∧ okA i' i = true ∧ tyElem P t = some e ∧ tySize P e = some sz ∧ sz ≠ 0 := by
  cases p <;> simp only [okOp, Bool.false_eq_true, Bool.and_eq_true] at h
  obtain ⟨⟨h1, h2⟩, h3⟩ := h
  split at h3
  · rename_i e he
    simp only [Bool.and_eq_true, beq_iff_eq, bne_iff_ne] at h3
    exact ⟨_, e, _, _, rfl, h1, h2, he, h3.1, h3.2⟩
  · cases h3
theorem ok_iaa {len sz : Nat} {x i : A} (h : okOp P p (.iaa len sz x i) = true) : ∃ t e x' i', p = .indexAddr t x' i' ∧ okA x' x = true ∧ okA i' i = true ∧ P.underlying t = some (.array len e) ∧ tySize P e = some sz := by
  cases p <;> simp only [okOp, Bool.false_eq_true, Bool.and_eq_true] at h
  obtain ⟨⟨h1, h2⟩, h3⟩ := h
  split at h3
  · rename_i n e he
    simp only [Bool.and_eq_true, beq_iff_eq] at h3
    obtain ⟨rfl, h3⟩ := h3
    exact ⟨_, e, _, _, rfl, h1, h2, he, h3⟩
  · cases h3
theorem ok_idx {len sz : Nat} {ag : Bool} {x i : A} (h : okOp P p (.idx len sz ag x i) = true) : ∃ t e x' i', p = .index t x' i' ∧ okA x' x = true ∧ okA i' i = true ∧ P.underlying t = some (.array len e) ∧ tySize P e = some sz ∧ tyAgg P e = some ag := by
  cases p <;> simp only [okOp, Bool.false_eq_true, Bool.and_eq_true] at h
  obtain ⟨⟨h1, h2⟩, h3⟩ := h
  split at h3
  · rename_i n e he
    simp only [Bool.and_eq_true, beq_iff_eq] at h3
    obtain ⟨⟨rfl, h3⟩, h4⟩ := h3
    exact ⟨_, e, _, _, rfl, h1, h2, he, h3, h4⟩
  · cases h3
theorem ok_sidx {x i : A} (h : okOp P p (.sidx x i) = true) : ∃ t x' i', p = .index t x' i' ∧ okA x' x = true ∧ okA i' i = true ∧ P.underlying t = some .string := by
  cases p <;> simp only [okOp, Bool.false_eq_true, Bool.and_eq_true] at h
  obtain ⟨⟨h1, h2⟩, h3⟩ := h
  split at h3
  · rename_i he
    exact ⟨_, _, _, rfl, h1, h2, he⟩
  · cases h3
theorem ok_ext {i : Nat} {y : A} (h : okOp P p (.ext i y) = true) : ∃ x, p = .extract x i ∧ okA x y = true := by
  cases p <;> simp only [okOp, Bool.false_eq_true, Bool.and_eq_true, beq_iff_eq] at h
  obtain ⟨h1, rfl⟩ := h
  exact ⟨_, rfl, h1⟩
theorem ok_call {f : FuncId} {as : List A} (h : okOp P p (.call f as) = true) : ∃ c, p = .call c ∧ c.callee = .value (.func f) ∧ okAs c.args.toList as = true := by
  cases p <;> simp only [okOp, Bool.false_eq_true] at h
  split at h
  · rename_i g hg
    simp only [Bool.and_eq_true, beq_iff_eq] at h
    obtain ⟨rfl, h⟩ := h
    exact ⟨_, rfl, hg, h⟩
  · cases h
theorem ok_callv {g : A} {as : List A} (h : okOp P p (.callv g as) = true) : ∃ c fo, p = .call c ∧ c.callee = .value fo ∧ okA fo g = true ∧ okAs c.args.toList as = true := by
  cases p <;> simp only [okOp, Bool.false_eq_true] at h
  split at h
  · rename_i fo hg
    simp only [Bool.and_eq_true] at h
    exact ⟨_, fo, rfl, hg, h.1, h.2⟩
  · cases h
theorem ok_len {x : A} (h : okOp P p (.len x) = true) : ∃ c t e y, p = .call c ∧ c.callee = .builtin .len ∧ c.args.toList = [y] ∧ c.argTypes.toList = [t] ∧ okA y x = true ∧ P.underlying t = some (.slice e) := by
  cases p <;> simp only [okOp, Bool.false_eq_true] at h
  split at h
  · rename_i y t h1 h2 h3
    simp only [Bool.and_eq_true] at h
    obtain ⟨h4, h5⟩ := h
    split at h5
    · rename_i e he
      exact ⟨_, t, e, y, rfl, h1, h2, h3, h4, he⟩
    · cases h5
  · cases h
theorem ok_slen {x : A} (h : okOp P p (.slen x) = true) : ∃ c t y, p = .call c ∧ c.callee = .builtin .len ∧ c.args.toList = [y] ∧ c.argTypes.toList = [t] ∧ okA y x = true ∧ P.underlying t = some .string := by
  cases p <;> simp only [okOp, Bool.false_eq_true] at h
  split at h
  · rename_i y t h1 h2 h3
    simp only [Bool.and_eq_true] at h
    obtain ⟨h4, h5⟩ := h
    split at h5
    · rename_i he
      exact ⟨_, t, y, rfl, h1, h2, h3, h4, he⟩
    · cases h5
  · cases h
theorem ok_eqb {neg : Bool} {x y : A} (h : okOp P p (.eqb neg x y) = true) : ∃ t t' x' y', p = .binOp (if neg then .neq else .eql) t x' y' t' ∧ okA x' x = true ∧ okA y' y = true ∧ P.underlying t = some .bool := by
  cases p <;> simp only [okOp, Bool.false_eq_true, Bool.and_eq_true, decide_eq_true_eq] at h
  obtain ⟨⟨⟨rfl, h1⟩, h2⟩, h3⟩ := h
  split at h3
  · rename_i ht
    exact ⟨_, _, _, _, rfl, h1, h2, ht⟩
  · cases h3
theorem ok_eqa {neg : Bool} {n : Nat} {x y : A} (h : okOp P p (.eqa neg n x y) = true) : ∃ t t' x' y' fs, p = .binOp (if neg then .neq else .eql) t x' y' t' ∧ okA x' x = true ∧ okA y' y = true ∧ P.underlying t = some (.struct fs) ∧ fs.size = n ∧ okFs P fs.toList 0 = true ∧ P.stoodInHeld t = false ∧ P.eqGuardType P.depth t = false := by
  cases p <;> simp only [okOp, Bool.false_eq_true, Bool.and_eq_true, decide_eq_true_eq] at h
  obtain ⟨⟨⟨rfl, h1⟩, h2⟩, h3⟩ := h
  split at h3
  · rename_i fs ht
    simp only [Bool.and_eq_true, beq_iff_eq, Bool.not_eq_true'] at h3
    exact ⟨_, _, _, _, fs, rfl, h1, h2, ht, h3.1.1.1, h3.1.1.2, h3.1.2, h3.2⟩
  · cases h3
theorem ok_mm {mx : Bool} {x y : A} (h : okOp P p (.mm mx x y) = true) : ∃ c x' y', p = .call c ∧ c.callee = .builtin (if mx then .max else .min) ∧ c.args.toList = [x', y'] ∧ okA x' x = true ∧ okA y' y = true := by
  cases p <;> simp only [okOp, Bool.false_eq_true] at h
  split at h
  · rename_i x' y' h1 h2
    simp only [Bool.and_eq_true, Bool.not_eq_true'] at h
    obtain ⟨⟨rfl, h3⟩, h4⟩ := h
    exact ⟨_, x', y', rfl, by simpa using h1, h2, h3, h4⟩
  · rename_i x' y' h1 h2
    simp only [Bool.and_eq_true] at h
    obtain ⟨⟨rfl, h3⟩, h4⟩ := h
    exact ⟨_, x', y', rfl, by simpa using h1, h2, h3, h4⟩
  · cases h
theorem ok_bld {zero : List V} {qs : List (Nat × Nat × A)} (h : okOp P p (.bld zero qs) = true) : ∃ t ps fs inf z, p = .build t ps ∧ P.underlying t = some (.struct fs) ∧ (fs.toList.all fun f => (tySize P f.type).isSome) = true ∧ P.info? t = some inf ∧ inf.zero = some z ∧ okVs z.cells.toList zero = true ∧ okParts P t ps.toList qs = true := by
  cases p <;> simp only [okOp, Bool.false_eq_true] at h
  split at h
  · rename_i fs hfs
    simp only [Bool.and_eq_true] at h
    obtain ⟨⟨h1, h2⟩, h3⟩ := h
    split at h2
    · rename_i i hi
      split at h2
      · rename_i z hz
        exact ⟨_, _, fs, i, z, rfl, hfs, h1, hi, hz, h2, h3⟩
      · cases h2
    · cases h2
  · cases h
theorem ok_blda {zero : List V} {sz : Nat} {qs : List (Nat × A)} (h : okOp P p (.blda zero sz qs) = true) : ∃ t n e ps inf z, p = .build t ps ∧ P.underlying t = some (.array n e) ∧ tySize P e = some sz ∧ P.info? t = some inf ∧ inf.zero = some z ∧ okVs z.cells.toList zero = true ∧ okP2 ps.toList qs = true := by
  cases p <;> simp only [okOp, Bool.false_eq_true, Bool.and_eq_true] at h
  obtain ⟨h1, h2⟩ := h
  split at h2
  · rename_i n e he
    simp only [Bool.and_eq_true, beq_iff_eq] at h2
    obtain ⟨h3, h4⟩ := h2
    split at h4
    · rename_i i hi
      split at h4
      · rename_i z hz
        exact ⟨_, n, e, _, i, z, rfl, he, h3, hi, hz, h4, h1⟩
      · cases h4
    · cases h4
  · cases h2
theorem ok_asl {ty : Ty} {n : Nat} {x : A} (h : okOp P p (.asl ty n x) = true) : ∃ t e x', p = .slice t x' none none none ∧ okA x' x = true ∧ P.underlying t = some (.array n e) ∧ tySize P e = some 1 := by
  cases p <;> simp only [okOp, Bool.false_eq_true, Bool.and_eq_true, Option.isNone_iff_eq_none] at h
  obtain ⟨⟨⟨⟨h1, rfl⟩, rfl⟩, rfl⟩, h5⟩ := h
  split at h5
  · rename_i m e he
    simp only [Bool.and_eq_true, beq_iff_eq] at h5
    obtain ⟨rfl, h6⟩ := h5
    exact ⟨_, e, _, rfl, h1, he, h6⟩
  · cases h5
theorem ok_bsl {ty : Ty} {zero : V} {sz n : Nat} {qs : List (Nat × A)} (h : okOp P p (.bsl ty zero sz n qs) = true) : ∃ t e ps inf z, p = .buildSlice t n ps ∧ okP2 ps.toList qs = true ∧ P.underlying t = some (.slice e) ∧ P.info? e = some inf ∧ inf.size = sz ∧ sz ≠ 0 ∧ n * sz ≤ 16777216 ∧ inf.zero = some z ∧ okVs z.cells.toList zero.cells = true ∧ z.cells.size = sz ∧ shaped zero z = true := by
  cases p <;> simp only [okOp, Bool.false_eq_true, Bool.and_eq_true, beq_iff_eq] at h
  obtain ⟨⟨rfl, h1⟩, h2⟩ := h
  split at h2
  · rename_i e he
    unfold tyElem at he
    split at he
    · rename_i e' he'
      cases he
      split at h2
      · rename_i i hi
        simp only [Bool.and_eq_true, beq_iff_eq, bne_iff_ne, Nat.ble_eq] at h2
        obtain ⟨⟨⟨h3, h4⟩, h5⟩, h6⟩ := h2
        split at h6
        · rename_i z hz
          simp only [Bool.and_eq_true, beq_iff_eq] at h6
          exact ⟨_, _, _, i, z, rfl, h1, he', hi, h3, h4, h5, hz, h6.1.1, h6.1.2, h6.2⟩
        · cases h6
      · cases h2
    · cases he
  · cases h2
theorem ok_mkf {f : FuncId} {as : List A} (h : okOp P p (.mkf f as) = true) : ∃ caps, p = .makeFunc (.func f) #[] caps ∧ okAs caps.toList as = true := by
  cases p <;> simp only [okOp, Bool.false_eq_true] at h
  split at h
  · simp only [Bool.and_eq_true, beq_iff_eq, Array.isEmpty_iff] at h
    obtain ⟨⟨rfl, rfl⟩, h⟩ := h
    exact ⟨_, rfl, h⟩
  · cases h
theorem ok_slc {sz : Nat} {x : A} {lo hi mx : Option A} (h : okOp P p (.slc sz x lo hi mx) = true) : ∃ t e x' lo' hi' mx', p = .slice t x' lo' hi' mx' ∧ okA x' x = true ∧ okAo lo' lo = true ∧ okAo hi' hi = true ∧ okAo mx' mx = true ∧ P.underlying t = some (.slice e) ∧ tySize P e = some sz ∧ sz ≠ 0 := by
  cases p <;> simp only [okOp, Bool.false_eq_true, Bool.and_eq_true] at h
  obtain ⟨⟨⟨⟨h1, h2⟩, h3⟩, h4⟩, h5⟩ := h
  split at h5
  · rename_i e he
    unfold tyElem at he
    split at he
    · rename_i e' he'
      cases he
      simp only [Bool.and_eq_true, beq_iff_eq, bne_iff_ne] at h5
      exact ⟨_, _, _, _, _, _, rfl, h1, h2, h3, h4, he', h5.1, h5.2⟩
    · cases he
  · cases h5
theorem ok_sstr {x : A} {lo hi : Option A} (h : okOp P p (.sstr x lo hi) = true) : ∃ t x' lo' hi', p = .slice t x' lo' hi' none ∧ okA x' x = true ∧ okAo lo' lo = true ∧ okAo hi' hi = true ∧ P.underlying t = some .string := by
  cases p <;> simp only [okOp, Bool.false_eq_true, Bool.and_eq_true, Option.isNone_iff_eq_none] at h
  obtain ⟨⟨⟨⟨h1, h2⟩, h3⟩, rfl⟩, h5⟩ := h
  split at h5
  · rename_i he
    exact ⟨_, _, _, _, rfl, h1, h2, h3, he⟩
  · cases h5
theorem ok_conv {k : IntKind} {y : A} (h : okOp P p (.conv k y) = true) : ∃ src dst x, p = .convert src dst x ∧ okA x y = true ∧ (P.underlying src).isSome = true ∧ P.underlying dst = some (.int k) := by
  cases p <;> simp only [okOp, Bool.false_eq_true, Bool.and_eq_true] at h
  obtain ⟨⟨h1, h2⟩, h3⟩ := h
  split at h3
  · rename_i k' hk
    obtain rfl := kindEq_eq h3
    exact ⟨_, _, _, rfl, h1, h2, hk⟩
  · cases h3
theorem ok_nilck {y : A} (h : okOp P p (.nilck y) = true) : ∃ x, p = .nilCheck x ∧ okA x y = true := by
  cases p <;> simp only [okOp, Bool.false_eq_true] at h
  exact ⟨_, rfl, h⟩
theorem ok_boxi {y : A} (h : okOp P p (.boxi y) = true) : ∃ t x, p = .box t x ∧ okA x y = true := by
  cases p <;> simp only [okOp, Bool.false_eq_true] at h
  exact ⟨_, _, rfl, h⟩
end

end Go.Evl
