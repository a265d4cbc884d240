/-
  A value semantics for the program's code, part 16: a region that draws its order.
  Conditions: none; this text holds definitions and lemmas of their own.
-/
import Derived.Test.YtbcihiehcekheaaDoorEv15
namespace Go.Evl
open Go Go.RowKit
set_option linter.unusedVariables false
set_option linter.unusedSimpArgs false

theorem seq_of {f : St → Ins → Option St} : ∀ (is : List Ins) (s0 sf : St), steps f is s0 = some sf → ∃ S : Nat → St, S 0 = s0 ∧ S is.length = sf ∧ ∀ j i, is[j]? = some i → f (S j) i = some (S (j + 1))
  | [], s0, sf, h => by
    simp only [steps, Option.some.injEq] at h
    exact ⟨fun _ => s0, rfl, h, fun j i hj => by simp at hj⟩
  | i :: is, s0, sf, h => by
    simp only [steps] at h
    split at h
    · rename_i s1 hs1
      obtain ⟨S, h0, h1, h2⟩ := seq_of is s1 sf h
      refine ⟨fun j => match j with | 0 => s0 | j + 1 => S j, rfl, h1, fun j x hj => ?_⟩
      cases j with
      | zero =>
        simp at hj; subst hj
        show f s0 i = some (S 0)
        rw [h0]; exact hs1
      | succ j => exact h2 j x (by simpa using hj)
    · cases h


/-- What a step of the early part does. -/
inductive Step0 (cf : FuncId → List V → Option V) (bx : Nat → Option (List D)) (s : St) (i : Ins) : St → Prop
  | pure (v : D) (hw : wantsV s i.guard = some true) (he : ev0 std cf (rdA s.regs) bx i.op = some v) : Step0 cf bx s i (s.set i.dst v)
  | skip (hw : wantsV s i.guard = some false) : Step0 cf bx s i (s.set i.dst .undef)
  | alloc (zero : List V) (d : Nat) (hw : wantsV s i.guard = some true) (ho : i.op = .alloc zero) (hd : i.dst = some d) : Step0 cf bx s i ({ s with boxes := put s.boxes (s.num d) (zero.map .p) }.set i.dst (.mptr (s.num d) 0))
  | store (sz : Nat) (a x : A) (id off : Nat) (ds cs : List D) (hw : wantsV s i.guard = some true) (ho : i.op = .store sz a x) (ha : rdA s.regs a = .mptr id off) (hx : (rdA s.regs x).cells = some ds) (hb : get s.boxes id = some cs)
      (hz : ds.length = sz) (hl : off + sz ≤ cs.length) (hr : isRow cs = false ∧ isRow (setRange cs off ds) = false) : Step0 cf bx s i ({ s with boxes := put s.boxes id (setRange cs off ds) }.set i.dst .junk)
theorem step0_shape {cf : FuncId → List V → Option V} {bx : Nat → Option (List D)} {s s' : St} {i : Ins} (h : step0 std cf bx s i = some s') : Step0 cf bx s i s' := by
  simp only [step0] at h
  split at h
  · rename_i hw
    split at h
    · rename_i zero ho
      split at h
      · rename_i d hd
        simp only [Option.some.injEq] at h
        subst h
        exact .alloc zero d hw ho hd
      · cases h
    · rename_i sz a x ho
      split at h
      · rename_i id off ds ha hx
        split at h
        · rename_i cs hb
          obtain ⟨hc, h⟩ := cond_some h
          simp only [Bool.and_eq_true, beq_iff_eq, Nat.ble_eq, Bool.not_eq_true'] at hc
          simp only [Option.some.injEq] at h
          subst h
          exact .store sz a x id off ds cs hw ho ha hx hb hc.2.1 hc.2.2 hc.1
        · cases h
      · cases h
    · split at h
      · rename_i v hv
        simp only [Option.some.injEq] at h
        subst h
        exact .pure v hw hv
      · cases h
  · rename_i hw
    simp only [Option.some.injEq] at h
    subst h
    exact .skip hw
  · cases h

theorem set_get_ne {s : St} {d : Option Nat} {v : D} {t : Nat} (h : d ≠ some t) : get (s.set d v).regs t = get s.regs t := by
  cases d with
  | none => rfl
  | some d => exact get_cons_ne _ _ (fun e => h (by rw [e]))
theorem set_get {s : St} {v : D} {t : Nat} : get (s.set (some t) v).regs t = some v := get_cons_same _ _ _

theorem okInss_get {P : Program} {N : Nat} {ops : List Oper} : ∀ {os : List Oper} {is : List Ins}, okInss P N ops os is = true → os.length = is.length ∧ ∀ (j : Nat) (o : Oper) (i : Ins), os[j]? = some o → is[j]? = some i → okIns P N ops o i = true
  | [], [], _ => ⟨rfl, fun j o i h => by simp at h⟩
  | o :: os, i :: is, h => by
    simp only [okInss, Bool.and_eq_true] at h
    obtain ⟨h1, h2⟩ := okInss_get h.2
    refine ⟨by simp [h1], fun j o' i' ho hi => ?_⟩
    cases j with
    | zero =>
      simp at ho hi
      subst ho; subst hi
      exact h.1
    | succ j => exact h2 j o' i' (by simpa using ho) (by simpa using hi)
  | [], _ :: _, h => by simp [okInss] at h
  | _ :: _, [], h => by simp [okInss] at h

theorem onto_spec {o : Oper} {j : Nat} (h : onto o j = true) : ∃ e ∈ o.after, Region.binds .any e = true ∧ e.on = j := by
  unfold onto at h
  obtain ⟨e, he, h⟩ := List.any_eq_true.1 h
  simp only [Bool.and_eq_true, beq_iff_eq] at h
  exact ⟨e, by simpa using he, h.2, h.1⟩


/-- Who makes a box; who stores into one. -/
def Ins.makes (x : Ins) (d : Nat) (zero : List V) : Prop := x.op = .alloc zero ∧ x.dst = some d
def Ins.stores (x : Ins) (d : Nat) : Prop := ∃ sz y, x.op = .store sz (.t d) y

structure DrawOk (ops : Array Oper) (is late : List Ins) : Prop where
  one : ∀ (i j : Nat) (x y : Ins) (d : Nat), is[i]? = some x → is[j]? = some y → y.dst = some d → i ≠ j → x.dst ≠ some d ∧ (d ∈ x.tmps → (j < i → ∃ o, ops[i]? = some o ∧ onto o j = true) ∧ (i ≤ j → ∃ o, ops[j]? = some o ∧ onto o i = true))
  back : ∀ (i : Nat) (x : Ins), is[i]? = some x → ∃ o, ops[i]? = some o ∧ ∀ e ∈ o.after, Region.binds .any e = true → e.on < i
  alloc : ∀ (i : Nat) (x : Ins) (z : List V), is[i]? = some x → x.op = .alloc z → x.guard = none ∧ ∃ d, x.dst = some d
  store : ∀ (i : Nat) (x : Ins) (sz : Nat) (ad v : A), is[i]? = some x → x.op = .store sz ad v → x.guard = none ∧ x.dst = none ∧ ∃ d, ad = .t d ∧ ((∃ k y z, k < i ∧ is[k]? = some y ∧ y.makes d z) ∨ ∀ (k : Nat) (y : Ins), is[k]? = some y → y.dst ≠ some d) ∧ ∀ j y, is[j]? = some y → y.stores d → i = j
  late : ∀ (q : Nat) (x : Ins), late[q]? = some x → ∃ o, ops[is.length + q]? = some o ∧ (∀ e ∈ o.after, Region.binds .any e = true → e.on < is.length + q) ∧ ∀ i, i < is.length + q → reach ops.toList ops.size (is.length + q) i = true

theorem okDraw_spec {ops : Array Oper} {is late : List Ins} (h : okDraw ops.toList is late = true) : DrawOk ops is late := by
  unfold okDraw at h
  simp only [Bool.and_eq_true] at h
  obtain ⟨h, hl⟩ := h
  have h := List.all_eq_true.1 h
  have hl := List.all_eq_true.1 hl
  have hh : ∀ (i : Nat) (x : Ins), is[i]? = some x → ∃ o, ops[i]? = some o ∧ okDraw1 ops.toList is i o x = true ∧ okTurn is i x = true ∧ ∀ e ∈ o.after, Region.binds .any e = true → e.on < i := by
    intro i x hx
    have := h (x, i) (by rw [List.mem_zipIdx_iff_getElem?]; exact hx)
    simp only [Array.getElem?_toList] at this
    split at this
    · rename_i o ho
      simp only [Bool.and_eq_true] at this
      refine ⟨o, ho, this.1.1, this.1.2, fun e he hb => ?_⟩
      have := List.all_eq_true.1 this.2 e (by simpa using he)
      simp only [hb, Bool.not_true, Bool.false_or, Nat.blt_eq] at this
      exact this
    · cases this
  refine ⟨fun i j x y d hx hy hd hij => ?_, fun i x hx => ?_, fun i x z hx hz => ?_, fun i x sz ad v hx hz => ?_, fun q x hx => ?_⟩
  · obtain ⟨o, ho, h1, _⟩ := hh i x hx
    unfold okDraw1 at h1
    have := List.all_eq_true.1 h1 (y, j) (by rw [List.mem_zipIdx_iff_getElem?]; exact hy)
    simp only [hd] at this
    have hb : (i == j) = false := by simpa using hij
    simp only [hb, Bool.false_or, Bool.and_eq_true, bne_iff_ne] at this
    refine ⟨this.2, fun hm => ?_⟩
    have hc : x.tmps.contains d = true := by simpa using hm
    have h2 := this.1
    simp only [hc, Bool.not_true, Bool.false_or] at h2
    split at h2
    · rename_i hji
      exact ⟨fun _ => ⟨o, ho, h2⟩, fun hle => by omega⟩
    · rename_i hji
      refine ⟨fun hlt => absurd hlt hji, fun _ => ?_⟩
      split at h2
      · rename_i o' ho'
        exact ⟨o', by simpa using ho', h2⟩
      · cases h2
  · obtain ⟨o, ho, _, _, h2⟩ := hh i x hx
    exact ⟨o, ho, h2⟩
  · obtain ⟨o, ho, _, h2, _⟩ := hh i x hx
    simp only [okTurn, hz, Bool.and_eq_true, Option.isNone_iff_eq_none] at h2
    exact ⟨h2.1, Option.isSome_iff_exists.1 h2.2⟩
  · obtain ⟨o, ho, _, h2, _⟩ := hh i x hx
    cases ad with
    | v u => simp [okTurn, hz] at h2
    | t d =>
      simp only [okTurn, hz, Bool.and_eq_true, Option.isNone_iff_eq_none] at h2
      obtain ⟨⟨⟨h3, h4⟩, h5⟩, h6⟩ := h2
      refine ⟨h3, h4, d, rfl, ?_, fun j y hy ⟨sz', y', hs⟩ => ?_⟩
      · rw [Bool.or_eq_true] at h5
        rcases h5 with h5 | h5
        case inr =>
          refine .inr fun k y hy e => ?_
          have := List.all_eq_true.1 h5 y (List.mem_of_getElem? hy)
          rw [e] at this
          simp at this
        refine .inl ?_
        obtain ⟨y, hy, h7⟩ := List.any_eq_true.1 h5
        obtain ⟨k, hk⟩ := List.mem_iff_getElem?.1 hy
        rw [List.getElem?_take] at hk
        split at hk
        · rename_i hki
          simp only [Bool.and_eq_true, beq_iff_eq] at h7
          obtain ⟨h7, h8⟩ := h7
          split at h7
          · rename_i z hz'
            exact ⟨k, y, z, hki, hk, hz', h8⟩
          · cases h7
        · cases hk
      · have := List.all_eq_true.1 h6 (y, j) (by rw [List.mem_zipIdx_iff_getElem?]; exact hy)
        simpa [hs] using this
  · have := hl (x, q) (by rw [List.mem_zipIdx_iff_getElem?]; exact hx)
    simp only [Bool.and_eq_true, Array.getElem?_toList] at this
    obtain ⟨h1, h2⟩ := this
    split at h1
    · rename_i o ho
      refine ⟨o, ho, fun e he hb => ?_, fun i hi => ?_⟩
      · have := List.all_eq_true.1 h1 e (by simpa using he)
        simp only [hb, Bool.not_true, Bool.false_or, Nat.blt_eq] at this
        exact this
      · have := List.all_eq_true.1 h2 i (by simpa using hi)
        simpa using this
    · cases h1

theorem reach_closed {ops : Array Oper} {L : Array Bool} (hc : ∀ i o, L.getD i false = true → ops[i]? = some o → ∀ e ∈ o.after, Region.binds .any e = true → L.getD e.on false = true) :
    ∀ (k j i : Nat) (o : Oper), ops[j]? = some o → (∀ e ∈ o.after, Region.binds .any e = true → L.getD e.on false = true) → reach ops.toList k j i = true → L.getD i false = true
  | 0, j, i, o, _, _, h => by simp [reach] at h
  | k + 1, j, i, o, ho, ha, h => by
    simp only [reach, Array.getElem?_toList, ho, Bool.or_eq_true] at h
    rcases h with h | h
    · obtain ⟨e, he, hb, rfl⟩ := onto_spec h
      exact ha e he hb
    · obtain ⟨e, he, h⟩ := List.any_eq_true.1 h
      simp only [Bool.and_eq_true] at h
      have hL := ha e (by simpa using he) h.1
      cases hoe : ops[e.on]? with
      | none =>
        have hr := h.2
        cases k with
        | zero => simp [reach] at hr
        | succ k => simp [reach, hoe] at hr
      | some o' => exact reach_closed hc k e.on i o' hoe (hc e.on o' hL hoe) h.2

theorem getD_flip {L : Array Bool} {i : Nat} (h : i < L.size) {b : Bool} : L.getD i true = b ↔ L.getD i false = b := by
  simp [Array.getD_eq_getD_getElem?, h]
theorem getD_set_same {L : Array Bool} {i : Nat} (h : i < L.size) (b : Bool) : (L.setIfInBounds i true).getD i b = true := by
  simp [Array.getD_eq_getD_getElem?, h]
theorem getD_set_other {L : Array Bool} {i j : Nat} (h : j ≠ i) (b : Bool) : (L.setIfInBounds i true).getD j b = L.getD j b := by
  simp [Array.getD_eq_getD_getElem?, Array.getElem?_setIfInBounds, Ne.symm h]

section
variable {M0 : Mem} {w0 : World} {M : Mem} {G : Gh} {ts : List (Array Value)} {w : World} {s : St}

theorem SR.withRegs {t : Array Value} {s' : St} (h : SR M0 w0 M G (t :: ts) w s) (h1 : s'.stk = s.stk) (h2 : ∀ id, get s'.boxes id = get s.boxes id) (h3 : s'.rows = s.rows) (h4 : s'.lps = s.lps) (h5 : s'.ars = s.ars) (hr : ∀ j d, get s'.regs j = some d → RD M G d (t.getD j undef)) : SR M0 w0 M G (t :: ts) w s' :=
  ⟨h.ext, by rw [h1]; exact h.frames.head hr, fun id cs hc => h.boxes id cs (by rw [← h2]; exact hc), by rw [h3]; exact h.rows, by rw [h4]; exact h.loops, by rw [h4]; exact h.recs, h.inj, by rw [h5]; exact h.marks⟩
theorem SR.putHead {a : Act} (h : SR M0 w0 M G (a.tmps :: ts) w s) (hs : s.regs = []) (hl : Lower G ts.length) (dst : Option Nat) (v : Value) : SR M0 w0 M G ((a.put dst v).tmps :: ts) w s :=
  ⟨h.ext, h.frames.head (fun j d hd => by rw [hs] at hd; simp [get] at hd), h.boxes, h.rows, h.loops, fun lvl l r h' hp => by
    obtain ⟨k1, k2, k3, k4⟩ := h.recs lvl l r h' hp
    exact ⟨k1, k2, by simpa using k3, by rw [head_get (hl lvl l r h' hp)]; exact k4⟩, h.inj, h.marks⟩

/-- One more box may be spoken of. -/
theorem RD.blkMore {M' : Mem} {G' : Gh} {d : D} {u : Value} (h : RD M G d u) (hs : Sub M M') (hb : ∀ j b, G.blk j = some b → G'.blk j = some b) (hr : G'.rows = G.rows) (hl : G'.lp = G.lp) : RD M' G' d u := by
  have h := h.sub hs
  cases d with
  | junk => trivial
  | undef => exact h
  | p v => exact h
  | own j ver ty xs => exact ⟨h.1, fun row hrow => h.2 row (by rw [← hr]; exact hrow)⟩
  | mptr j off => obtain ⟨b, k, e⟩ := h; exact ⟨b, hb _ _ k, e⟩
  | mclo f cs =>
    obtain ⟨us, e, hlen, hc⟩ := h
    refine ⟨us, e, hlen, fun i c u hi hu => ?_⟩
    have := hc i c u hi hu
    cases c with
    | p v => exact this
    | mptr j off => obtain ⟨b, k, e⟩ := this; exact ⟨b, hb _ _ k, e⟩
  | yld j =>
    obtain ⟨l, r, h', k, e⟩ := h
    exact ⟨l, r, h', by rw [hl]; exact k, e⟩
  | row t xs => trivial
  | msl j sz lo len =>
    obtain ⟨a, n, cap, e1, e2, e3, e4, hb'⟩ := h
    refine ⟨a, n, cap, e1, e2, e3, e4, fun hp => ?_⟩
    obtain ⟨b, q1, q2⟩ := hb' hp
    exact ⟨b, hb _ _ q1, q2⟩
  | mel j sz i off => obtain ⟨hi, b, k, e⟩ := h; exact ⟨hi, b, hb _ _ k, e⟩

/-- A box where none was. -/
theorem SR.addBox (h : SR M0 w0 M G ts w s) {id : Nat} (hid : G.blk id = none) {us : List Value} {cs : List D} (t : TypeId) (ho : id % 2 = 1 → t = bldTy ∧ us.length = 2) (hrow : isRow cs = false) (hl : us.length = cs.length)
    (hc : ∀ (j : Nat) (d : D) (u : Value), cs[j]? = some d → us[j]? = some u → RD M G d u ∧ single u) :
    SR M0 w0 M { G with blk := fun j => if j = id then some w.heap.size else G.blk j, owner := fun b => if b = w.heap.size then some (true, id) else G.owner b } ts (w.alloc (.cells us.toArray t)) { s with boxes := put s.boxes id cs } := by
  have hmore : ∀ j b, G.blk j = some b → (if j = id then some w.heap.size else G.blk j) = some b := fun j b hj => by
    rw [if_neg]; exact hj
    rintro rfl
    rw [hid] at hj; cases hj
  have he := alloc_ext' h.ext.ok (.cells us.toArray t)
  have h1 := h.later he
  refine ⟨h1.ext, h1.frames.imp (fun d u hd => hd.blkMore (Sub.refl M) hmore rfl rfl), fun j cs' hj => ?_, fun j v hj => ?_, h1.loops, h1.recs, h1.inj, h1.marks⟩
  · by_cases e : j = id
    · subst e
      simp only [get_put_same, Option.some.injEq] at hj
      subst hj
      refine Box0.ok ⟨w.heap.size, us, t, if_pos rfl, h.old, if_pos rfl, heap_alloc_new w _, Nat.le_of_eq hl.symm, fun j d u hj hu => ⟨(hc j d u hj hu).1.blkMore (Sub.refl M) hmore rfl rfl, (hc j d u hj hu).2⟩, fun ad ha => ?_, ho⟩ hrow
      cases hM : M ad with
      | none => rfl
      | some v => have := h.ext.ok.old ad v hM; omega
    · rw [get_put_ne _ _ e] at hj
      rcases h.boxes j cs' hj with h0 | h0
      · exact .inl h0
      obtain ⟨b, us', t', k1, k2, k3, k4, k5, k6, k7⟩ := h0
      have hb := lt_of_heap k4
      exact .inr ⟨b, us', t', (if_neg e).trans k1, k2, (if_neg (by omega)).trans k3, (heap_alloc_old w _ b hb).trans k4, k5, fun i d u hd hu => ⟨(k6 i d u hd hu).1.blkMore (Sub.refl M) hmore rfl rfl, (k6 i d u hd hu).2⟩, k7⟩
  · obtain ⟨row, h1, h2, h3⟩ := h.rows j v hj
    exact ⟨row, h1, h2, h3.upd (Sub.refl M) (fun b ho hlt => ⟨heap_alloc_old w _ b hlt, (if_neg (by omega)).trans ho, fun _ _ => rfl⟩)⟩
end

end Go.Evl
