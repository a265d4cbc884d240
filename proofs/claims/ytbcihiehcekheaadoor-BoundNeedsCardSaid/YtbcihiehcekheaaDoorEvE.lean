/-
  A value semantics for the program's code, the part on regions that draw their order: the whole region.
  Conditions: none; this text holds definitions and lemmas of their own.
-/
import Derived.Test.YtbcihiehcekheaaDoorEvD
namespace Go.Evl
open Go Go.RowKit
set_option linter.unusedVariables false
set_option linter.unusedSimpArgs false

/-- The boxes, when the places in 'L' have been carried out. -/
structure Boxes (is : List Ins) (s1 sE : St) (L : Array Bool) (T : St) : Prop where
  c1 : ∀ id, (∀ (k : Nat) (x : Ins) (d : Nat) (z : List V), is[k]? = some x → x.makes d z → s1.num d ≠ id) → (∀ (j : Nat) (y : Ins) (d : Nat), is[j]? = some y → y.stores d → d ∉ allocsOf is → tg is s1 d ≠ id) → get T.boxes id = get s1.boxes id
  c2 : ∀ (k : Nat) (x : Ins) (d : Nat) (z : List V), is[k]? = some x → x.makes d z → L.getD k false = false → get T.boxes (s1.num d) = none
  c3 : ∀ (k : Nat) (x : Ins) (d : Nat) (z : List V), is[k]? = some x → x.makes d z → L.getD k false = true → (∀ (j : Nat) (y : Ins), is[j]? = some y → y.stores d → L.getD j false = false) → get T.boxes (s1.num d) = some (z.map .p)
  c4 : ∀ (j : Nat) (y : Ins) (d : Nat), is[j]? = some y → y.stores d → L.getD j false = true → get T.boxes (tg is s1 d) = get sE.boxes (tg is s1 d)
  c5 : ∀ (j : Nat) (y : Ins) (d : Nat), is[j]? = some y → y.stores d → d ∉ allocsOf is → L.getD j false = false → get T.boxes (tg is s1 d) = get s1.boxes (tg is s1 d)

structure Inv (M0 : Mem) (w0 : World) (N : Nat) (G1 : Gh) (ts : List (Array Value)) (ds : List Deferred) (ops : Array Oper) (is : List Ins) (s1 sE : St) (L : Array Bool) (M : Mem) (G : Gh) (a : Act) (w : World) (T : St) : Prop where
  t : T.regs = [] ∧ T.stk = s1.stk ∧ T.rows = s1.rows ∧ T.lps = s1.lps ∧ T.ars = s1.ars
  sr : SR M0 w0 M G (a.tmps :: ts) w T
  bx : Boxes is s1 sE L T
  size : a.tmps.size = N
  defers : a.defers = ds
  lsize : L.size = ops.size
  g : G.lp = G1.lp ∧ G.mark = G1.mark
  closed : ∀ i o, L.getD i false = true → ops[i]? = some o → ∀ e ∈ o.after, Region.binds .any e = true → L.getD e.on false = true
  blkno : ∀ (k : Nat) (x : Ins) (d : Nat) (z : List V), is[k]? = some x → x.makes d z → L.getD k false = false → G.blk (s1.num d) = none
  old : ∀ t d, (∀ (i : Nat) (x : Ins), is[i]? = some x → x.dst = some t → L.getD i true = false) → get s1.regs t = some d → RD M G d (a.tmps.getD t undef)
  new : ∀ (i : Nat) (x : Ins) (t : Nat) (d : D), is[i]? = some x → x.dst = some t → L.getD i false = true → get sE.regs t = some d → RD M G d (a.tmps.getD t undef)

theorem num_inj {s : St} {d d' : Nat} (h : s.num d = s.num d') : d = d' := by simp only [St.num] at h; omega

section
variable {P : Program} {cf : FuncId → List V → Option V} {run : Env → FuncId → List D → St → Option (D × St)} {env : Env} {ρ : Nat → Option (Nat × Loop × Nat)}
variable {F : Fence} {n : Nat} {Q : Exit → Act → World → Prop}
variable {M0 : Mem} {w0 : World} {N : Nat} {G1 : Gh} {ts : List (Array Value)} {ds : List Deferred}

theorem draw_step (hF : WideF F) (hcf : CfOk P cf) (hl : Lower G1 ts.length) {ops : Array Oper} {is late : List Ins} {s1 sE : St} (hok : okInss P N ops.toList ops.toList (is ++ late) = true) (hdr : DrawOk ops is late)
    (hkill : ∀ (k : Nat) (x : Ins) (d : Nat) (z : List V), is[k]? = some x → x.makes d z → get s1.boxes (s1.num d) = none) (htg : TgOk is s1)
    {S : Nat → St} (hS0 : S 0 = s1) (hSE : S is.length = sE) (hS : ∀ j i, is[j]? = some i → step0 std cf (bxD is s1) (S j) i = some (S (j + 1)))
    {L : Array Bool} {M : Mem} {G : Gh} {a : Act} {w : World} {T : St} {K : Act → World → Prop} {j : Nat} (I : Inv M0 w0 N G1 ts ds ops is s1 sE L M G a w T) (hj : j ∈ Region.ready .any ops L) (hjl : j < is.length)
    (hK : ∀ M' G' a' w' T', Inv M0 w0 N G1 ts ds ops is s1 sE (L.setIfInBounds j true) M' G' a' w' T' → K a' w') : wpOpIn F n P ops Q j K a w := by
  obtain ⟨hlen, hins⟩ := okInss_get hok
  have hlG : Lower G ts.length := fun lvl l r h' hp => hl lvl l r h' (by rw [← I.g.1]; exact hp)
  obtain ⟨hLj, o, ho, hall⟩ := mem_ready.1 hj
  have hjs : j < ops.size := (Array.getElem?_eq_some_iff.1 ho).1
  have hjL : j < L.size := by rw [I.lsize]; exact hjs
  have hLj' : L.getD j false = false := (getD_flip hjL).1 hLj
  have hx : is[j]? = some is[j] := List.getElem?_eq_getElem hjl
  generalize hxe : is[j] = x at hx
  have hoki := hins j o x (by simpa using ho) (by rw [List.getElem?_append_left hjl]; exact hx)
  obtain ⟨hop, hdst, hN⟩ := okIns_op hoki
  have hsh := step0_shape (hS j x hx)
  have hnum : ∀ d, (S j).num d = s1.num d := fun d => by rw [num_same hS hdr (by omega), hS0]
  have uniq : ∀ (i k : Nat) (y z : Ins) (t : Nat), is[i]? = some y → is[k]? = some z → y.dst = some t → z.dst = some t → i = k := fun i k y z t hy hz hyd hzd => by
    by_cases e : i = k
    · exact e
    · exact absurd hyd (hdr.one i k y z t hy hz hzd e).1
  have read : ∀ t, t ∈ x.tmps → RD M G ((get (S j).regs t).getD .junk) (a.tmps.getD t undef) := by
    intro t ht
    cases hg : get (S j).regs t with
    | none => trivial
    | some d =>
      show RD M G d _
      by_cases hw : ∃ (i : Nat) (y : Ins), is[i]? = some y ∧ y.dst = some t
      · obtain ⟨i, y, hy, hyd⟩ := hw
        have hil : i < L.size := by
          have h1 := (List.getElem?_eq_some_iff.1 hy).1
          have h2 : ops.size = (is ++ late).length := by simpa using hlen
          rw [I.lsize, h2, List.length_append]; omega
        rcases Nat.lt_or_ge i j with hij | hij
        · obtain ⟨o', ho', hon⟩ := ((hdr.one j i x y t hx hy hyd (by omega)).2 ht).1 hij
          rw [ho] at ho'; cases ho'
          obtain ⟨e, he, hbd, rfl⟩ := onto_spec hon
          have hLi := hall e he hbd
          have e2 := regs_same hS (j := j) (t := t) (is.length - j) (by omega) (fun k z hk _ hz hzd => by have := uniq k _ z y t hz hy hzd hyd; omega)
          rw [show j + (is.length - j) = is.length by omega, hSE] at e2
          exact I.new _ y t d hy hyd hLi (e2.trans hg)
        · have hLi : L.getD i true = false := by
            by_cases e : i = j
            · rw [e]; exact hLj
            · obtain ⟨o', ho', hon⟩ := ((hdr.one j i x y t hx hy hyd (Ne.symm e)).2 ht).2 hij
              obtain ⟨e', he', hbd, hej⟩ := onto_spec hon
              cases hb : L.getD i true with
              | false => rfl
              | true =>
                have := I.closed i o' ((getD_flip hil).1 hb) ho' e' he' hbd
                rw [hej, hLj'] at this
                cases this
          have e2 := regs_same hS (j := 0) (t := t) j (by omega) (fun k z _ hk hz hzd => by have := uniq k i z y t hz hy hzd hyd; omega)
          rw [Nat.zero_add, hS0] at e2
          exact I.old t d (fun k z hz hzd => by rw [uniq k i z y t hz hy hzd hyd]; exact hLi) (e2.symm.trans hg)
      · have e2 := regs_same hS (j := 0) (t := t) j (by omega) (fun k z _ hk hz hzd => hw ⟨k, z, hz, hzd⟩)
        rw [Nat.zero_add, hS0] at e2
        exact I.old t d (fun k z hz hzd => absurd ⟨k, z, hz, hzd⟩ hw) (e2.symm.trans hg)
  -- what comes of the step, once the boxes and the value are known
  have next : ∀ (M' : Mem) (G' : Gh) (w' : World) (v' : Value) (dv : D) (T' : St), (∀ d, x.dst = some d → get (S (j + 1)).regs d = some dv) → (T'.regs = [] ∧ T'.stk = s1.stk ∧ T'.rows = s1.rows ∧ T'.lps = s1.lps ∧ T'.ars = s1.ars) → SR M0 w0 M' G' (a.tmps :: ts) w' T' → Boxes is s1 sE (L.setIfInBounds j true) T' →
      (G'.lp = G1.lp ∧ G'.mark = G1.mark) → (∀ (k : Nat) (x : Ins) (d : Nat) (z : List V), is[k]? = some x → x.makes d z → (L.setIfInBounds j true).getD k false = false → G'.blk (s1.num d) = none) → (∀ d u, RD M G d u → RD M' G' d u) → RD M' G' dv v' →
      Inv M0 w0 N G1 ts ds ops is s1 sE (L.setIfInBounds j true) M' G' (a.put o.dst v') w' T' := by
    intro M' G' w' v' dv T' hdv hT hSR hB hg hbn htr hv
    have hlG' : Lower G' ts.length := fun lvl l r h' hp => hl lvl l r h' (by rw [← hg.1]; exact hp)
    refine ⟨hT, hSR.putHead hT.1 hlG' _ _, hB, by rw [put_size]; exact I.size, by rw [put_defers]; exact I.defers, by simpa using I.lsize, hg, ?_, hbn, ?_, ?_⟩
    · intro i o' hi ho' e he hbd
      have hLe : L.getD e.on false = true := by
        by_cases eij : i = j
        · subst eij
          rw [ho] at ho'; cases ho'
          exact hall e he hbd
        · rw [getD_set_other eij] at hi
          exact I.closed i o' hi ho' e he hbd
      by_cases ee : e.on = j
      · rw [ee]; exact getD_set_same hjL _
      · rw [getD_set_other ee]; exact hLe
    · intro t d hno hgt
      have hne : o.dst ≠ some t := by
        intro e
        have := hno j x hx (hdst.symm.trans e)
        rw [getD_set_same hjL] at this
        cases this
      have hold := I.old t d (fun i y hy hyd => by
        have h := hno i y hy hyd
        by_cases eij : i = j
        · rw [eij]; exact hLj
        · rw [getD_set_other eij] at h; exact h) hgt
      have e : (a.put o.dst v').tmps.getD t undef = a.tmps.getD t undef := by
        cases hod : o.dst with
        | none => rfl
        | some d' => exact put_ne (fun e => hne (by rw [hod, e]))
      rw [e]; exact htr _ _ hold
    · intro i y t d hy hyd hi hgt
      by_cases eij : i = j
      · subst eij
        rw [hx] at hy; cases hy
        have hod : o.dst = some t := hdst.trans hyd
        have e2 := regs_same hS (j := i + 1) (t := t) (is.length - (i + 1)) (by omega) (fun k z hk _ hz hzd => by have := uniq k i z x t hz hx hzd hyd; omega)
        rw [show i + 1 + (is.length - (i + 1)) = is.length by omega, hSE, hdv t hyd] at e2
        rw [e2] at hgt; cases hgt
        rw [hod, put_same (by rw [I.size]; exact hN t hod)]
        exact hv
      · rw [getD_set_other eij] at hi
        have hne : o.dst ≠ some t := by
          rw [hdst]
          exact (hdr.one j i x y t hx hy hyd (Ne.symm eij)).1
        have e : (a.put o.dst v').tmps.getD t undef = a.tmps.getD t undef := by
          cases hod : o.dst with
          | none => rfl
          | some d' => exact put_ne (fun e => hne (by rw [hod, e]))
        rw [e]
        exact htr _ _ (I.new i y t d hy hyd hi hgt)
  -- the boxes where no box is turned
  have still : ∀ (hno : ∀ d z, ¬ x.makes d z) (hns : ∀ d, ¬ x.stores d), Boxes is s1 sE (L.setIfInBounds j true) T := fun hno hns =>
    ⟨I.bx.c1, fun k y d z hy hm hk => I.bx.c2 k y d z hy hm (by
        by_cases e : k = j
        · rw [e]; exact hLj'
        · rw [getD_set_other e] at hk; exact hk),
      fun k y d z hy hm hk hst => I.bx.c3 k y d z hy hm (by
        by_cases e : k = j
        · subst e; rw [hx] at hy; cases hy; exact absurd hm (hno d z)
        · rw [getD_set_other e] at hk; exact hk) (fun i y' hy' hs' => by
          have := hst i y' hy' hs'
          by_cases e : i = j
          · rw [e]; exact hLj'
          · rw [getD_set_other e] at this; exact this),
      fun i y d hy hs hi => I.bx.c4 i y d hy hs (by
        by_cases e : i = j
        · subst e; rw [hx] at hy; cases hy; exact absurd hs (hns d)
        · rw [getD_set_other e] at hi; exact hi),
      fun i y d hy hs hn hi => I.bx.c5 i y d hy hs hn (by
        by_cases e : i = j
        · subst e; rw [hx] at hy; cases hy; exact absurd hs (hns d)
        · rw [getD_set_other e] at hi; exact hi)⟩
  have bn : (∀ d z, ¬ x.makes d z) → ∀ (k : Nat) (y : Ins) (d : Nat) (z : List V), is[k]? = some y → y.makes d z → (L.setIfInBounds j true).getD k false = false → G.blk (s1.num d) = none := fun hno k y d z hy hm hk => I.blkno k y d z hy hm (by
    by_cases e : k = j
    · rw [e]; exact hLj'
    · rw [getD_set_other e] at hk; exact hk)
  have hguard : ∀ g want, x.guard = some (g, want) → RD M G ((get (S j).regs g).getD .junk) (a.tmps.getD g undef) := fun g want hg => read g (by simp [Ins.tmps, hg])
  unfold wpOpIn
  rw [ho]
  show if Region.wanted o (yielded ops a.tmps) = true then _ else _
  generalize hSn : S (j + 1) = Sn at hsh
  cases hsh with
  | pure v hw hev =>
    rw [wanted_eq hoki hw hguard, if_pos rfl]
    have hno : ∀ d z, ¬ x.makes d z := fun d z hm => by rw [hm.1] at hev; simp [ev0] at hev
    have hns : ∀ d, ¬ x.stores d := fun d ⟨sz, y, hs⟩ => by rw [hs] at hev; simp [ev0] at hev
    refine ev0_sound hF hcf I.sr.ext.ok (fun id cs hc => I.sr.boxes id cs ?_) hop ⟨fun v => rfl, fun t ht => read t (by simp [Ins.tmps, ht])⟩ hev (fun v' M' w' hx' hr' => hK M' G _ w' T (next M' G w' v' v T ?_ I.t (I.sr.later hx') (still hno hns) I.g (bn hno) (fun d u hd => hd.sub (hx'.sub I.sr.ext.ok)) hr'))
    · obtain ⟨hc1, hc2⟩ := htg.seen id cs hc
      rw [I.bx.c1 id (fun k y d z hy hm e => ?_) hc2]
      · exact hc1
      · have := hkill k y d z hy hm
        rw [e, hc1] at this; cases this
    · intro d hd
      rw [hSn, hd, set_get]
  | skip hw =>
    rw [wanted_eq hoki hw hguard, if_neg (by simp)]
    have hno : ∀ d z, ¬ x.makes d z := fun d z hm => by rw [(hdr.alloc j x z hx hm.1).1] at hw; simp [wantsV] at hw
    have hns : ∀ d, ¬ x.stores d := fun d ⟨sz, y, hs⟩ => by rw [(hdr.store j x sz _ y hx hs).1] at hw; simp [wantsV] at hw
    exact ⟨fun f _ => hF.fn f, hK M G _ w T (next M G w undef .undef T (fun d hd => by rw [hSn, hd, set_get]) I.t I.sr (still hno hns) I.g (bn hno) (fun d u hd => hd) rfl)⟩
  | alloc zero d hw hxo hxd =>
    rw [wanted_eq hoki hw hguard, if_pos rfl]
    rw [hxo] at hop
    obtain ⟨t, inf, z, hopp, h1, h2, h3⟩ := ok_alloc hop
    obtain ⟨hz, hs⟩ := okVs_RL (M := M) h3
    have hbno := I.blkno j x d zero hx ⟨hxo, hxd⟩ hLj'
    have hSR := I.sr.addBox hbno (us := z.cells.toList) (cs := zero.map D.p) t num_even (isRow_map_p zero) (by simp [hz.length]) (fun i e u hi hu => by
      rw [List.getElem?_map] at hi
      obtain ⟨q, hq, rfl⟩ := Option.map_eq_some_iff.1 hi
      obtain ⟨u', hu', hr⟩ := hz.get hq
      rw [hu] at hu'; cases hu'
      exact ⟨hr, hs u (List.mem_of_getElem? hu)⟩)
    rw [Array.toArray_toList] at hSR
    have hmore : ∀ i b, G.blk i = some b → (if i = s1.num d then some w.heap.size else G.blk i) = some b := fun i b hi => by
      rw [if_neg]; exact hi
      rintro rfl
      rw [hbno] at hi; cases hi
    have mk1 : ∀ (k : Nat) (y : Ins) (d' : Nat) (z' : List V), is[k]? = some y → y.makes d' z' → k ≠ j → s1.num d' ≠ s1.num d := fun k y d' z' hy hm hk e => by
      have := num_inj e
      subst this
      exact hk (uniq k j y x _ hy hx hm.2 hxd)
    have hstore : ∀ (i : Nat) (y : Ins), is[i]? = some y → y.stores d → L.getD i false = false := fun i y hy ⟨sz, v, hso⟩ => by
      cases hb : L.getD i false with
      | false => rfl
      | true =>
        exfalso
        obtain ⟨_, _, d', e, hor, _⟩ := hdr.store i y sz _ v hy hso
        cases e
        obtain ⟨k, y', z', hk, hy', hm'⟩ : ∃ k y z, k < i ∧ is[k]? = some y ∧ y.makes d z := by
          rcases hor with h | h
          · exact h
          · exact absurd hxd (h j x hx)
        have hkj : k = j := uniq k j y' x d hy' hx hm'.2 hxd
        subst hkj
        obtain ⟨o', ho', hon⟩ := ((hdr.one i k y x d hy hx hxd (by omega)).2 (by simp [Ins.tmps, hso, O.tmps, A.tmps])).1 hk
        obtain ⟨e, he, hbd, heo⟩ := onto_spec hon
        have := I.closed i o' hb ho' e he hbd
        rw [heo, hLj'] at this; cases this
    refine wpIn_val hF (fun c hc => by rw [hopp] at hc; cases hc) (v := .pointer (some ⟨w.heap.size, 0, none⟩)) (w' := w.alloc (.cells z.cells t)) ?_ (hK M _ _ _ _ (next M { G with blk := fun j => if j = s1.num d then some w.heap.size else G.blk j, owner := fun b => if b = w.heap.size then some (true, s1.num d) else G.owner b } _ (.pointer (some ⟨w.heap.size, 0, none⟩)) (.mptr (s1.num d) 0) { T with boxes := put T.boxes (s1.num d) (zero.map D.p) } ?_ ⟨I.t.1, I.t.2.1, I.t.2.2.1, I.t.2.2.2.1, I.t.2.2.2.2⟩ hSR ?_ I.g ?_ (fun d u hd => hd.blkMore (Sub.refl M) hmore rfl rfl) ⟨w.heap.size, if_pos rfl, rfl⟩))
    · simp [execOp, hopp, Instr.alloc, zeroValue, typeInfo, h1, h2, newVar, newRow]
    · intro d' hd'
      rw [hxd] at hd'; cases hd'
      rw [hSn, hxd, set_get, hnum]
    · refine ⟨fun id hid hid2 => ?_, fun k y d' z' hy hm hk => ?_, fun k y d' z' hy hm hk hst => ?_, fun i y d' hy hs' hi => ?_, fun i y d' hy hs' hn hi => ?_⟩
      · exact (get_put_ne _ _ (hid j x d zero hx ⟨hxo, hxd⟩).symm).trans (I.bx.c1 id hid hid2)
      · have hkj : k ≠ j := fun e => by rw [e, getD_set_same hjL] at hk; cases hk
        rw [getD_set_other hkj] at hk
        exact (get_put_ne _ _ (mk1 k y d' z' hy hm hkj)).trans (I.bx.c2 k y d' z' hy hm hk)
      · by_cases hkj : k = j
        · subst hkj
          rw [hx] at hy; cases hy
          have e1 : d' = d := by have := hm.2.symm.trans hxd; cases this; rfl
          have e2 : z' = zero := by have := hm.1.symm.trans hxo; cases this; rfl
          subst e1; subst e2
          exact get_put_same _ _ _
        · rw [getD_set_other hkj] at hk
          refine (get_put_ne _ _ (mk1 k y d' z' hy hm hkj)).trans (I.bx.c3 k y d' z' hy hm hk (fun i y' hy' hs' => ?_))
          have := hst i y' hy' hs'
          by_cases e : i = j
          · rw [e]; exact hLj'
          · rw [getD_set_other e] at this; exact this
      · have hij : i ≠ j := fun e => by
          subst e; rw [hx] at hy; cases hy
          obtain ⟨sz, v, hso⟩ := hs'
          rw [hxo] at hso; cases hso
        rw [getD_set_other hij] at hi
        have hdd : d' ≠ d := fun e => by
          subst e
          have := hstore i y hy hs'
          rw [hi] at this; cases this
        refine (get_put_ne _ _ ?_).trans (I.bx.c4 i y d' hy hs' hi)
        by_cases hd' : d' ∈ allocsOf is
        · obtain ⟨k', x', z', hx', hm'⟩ := allocsOf_mem hd'
          rw [tg_made hx' hm']
          exact fun e => hdd (num_inj e)
        · exact (htg.new i y d' hy hs' hd' j x d zero hx ⟨hxo, hxd⟩).symm
      · have hij : i ≠ j := fun e => by
          subst e; rw [hx] at hy; cases hy
          obtain ⟨sz, v, hso⟩ := hs'
          rw [hxo] at hso; cases hso
        rw [getD_set_other hij] at hi
        exact (get_put_ne _ _ (htg.new i y d' hy hs' hn j x d zero hx ⟨hxo, hxd⟩).symm).trans (I.bx.c5 i y d' hy hs' hn hi)
    · intro k y d' z' hy hm hk
      have hkj : k ≠ j := fun e => by rw [e, getD_set_same hjL] at hk; cases hk
      rw [getD_set_other hkj] at hk
      exact (if_neg (mk1 k y d' z' hy hm hkj)).trans (I.blkno k y d' z' hy hm hk)
  | store sz ad v id off dsv cs hw hxo had hxv hb hz hle hrw =>
    rw [wanted_eq hoki hw hguard, if_pos rfl]
    obtain ⟨hgd, hxd, d, rfl, hor, huniq⟩ := hdr.store j x sz ad v hx hxo
    have hxs : x.stores d := ⟨sz, v, hxo⟩
    obtain ⟨off', had'⟩ := store_addr hS hdr hx hxs
    rw [hS0] at had'
    rw [had'] at had; cases had
    rw [hxo] at hop
    obtain ⟨t, x', y', hopp, h1, h2, h3⟩ := ok_store hop
    have hrd : Reads M G a (rdA (S j).regs) x.op.tmps := ⟨fun v => rfl, fun t ht => read t (by simp [Ins.tmps, ht])⟩
    rw [hxo] at hrd
    have hstno : ∀ (i : Nat) (y' : Ins), is[i]? = some y' → y'.stores d → L.getD i false = false := fun i y' hy' hs' => by
      rw [← huniq i y' hy' hs']; exact hLj'
    -- what lies there
    have hT : get T.boxes (tg is s1 d) = some cs := by
      by_cases hd : d ∈ allocsOf is
      · obtain ⟨k, y, zero, hkj, hy, hm⟩ : ∃ k y z, k < j ∧ is[k]? = some y ∧ y.makes d z := by
          rcases hor with h | h
          · exact h
          · obtain ⟨k, y, z, hy, hm⟩ := allocsOf_mem hd
            exact absurd hm.2 (h k y hy)
        have hkL : L.getD k false = true := by
          obtain ⟨o', ho', hon⟩ := ((hdr.one j k x y d hx hy hm.2 (by omega)).2 (by simp [Ins.tmps, hxo, O.tmps, A.tmps])).1 hkj
          rw [ho] at ho'; cases ho'
          obtain ⟨e, he, hbd, rfl⟩ := onto_spec hon
          exact hall e he hbd
        have hT := I.bx.c3 k y d zero hy hm hkL hstno
        have e1 := boxes_same hS hdr (id := tg is s1 d) (j := k + 1) (j - (k + 1)) (by omega) (fun i q hi hi2 hq => by
          rw [hS0]
          refine ⟨fun d' z' hm' e => ?_, fun d' hs' e => ?_⟩
          · rw [tg_made hy hm] at e
            have := num_inj e; subst this
            have := uniq i k q y _ hq hy hm'.2 hm.2; omega
          · have hdd : d' = d := Classical.byContradiction fun h => htg.inj j x d i q d' hx hxs hq hs' h e
            subst hdd
            have := huniq i q hq hs'; omega)
        rw [show k + 1 + (j - (k + 1)) = j by omega, alloc_step hS hdr hy hm, (set_stk _ _ _).2.2.2] at e1
        rw [num_same hS hdr (by have := (List.getElem?_eq_some_iff.1 hy).1; omega), hS0] at e1
        rw [hb] at e1
        rw [tg_made hy hm] at e1 ⊢
        have e2 := e1.trans (get_put_same _ _ _)
        cases e2
        exact hT
      · have e0 := I.bx.c5 j x d hx hxs hd hLj'
        have e1 := boxes_same hS hdr (id := tg is s1 d) (j := 0) j (by omega) (fun i q hi hi2 hq => by
          rw [hS0]
          refine ⟨fun d' z' hm' e => htg.new j x d hx hxs hd i q d' z' hq hm' e, fun d' hs' e => ?_⟩
          have hdd : d' = d := Classical.byContradiction fun h => htg.inj j x d i q d' hx hxs hq hs' h e
          subst hdd
          have := huniq i q hq hs'; omega)
        rw [Nat.zero_add, hS0, hb] at e1
        exact e0.trans e1.symm
    have hxav := opd h1 (hrd.mono (fun t ht => by simp [O.tmps, ht]))
    rw [had'] at hxav
    obtain ⟨b, hbk, hxe⟩ := hxav
    obtain ⟨b', us, ty, k1, k2, k3, k4, k5, k6, k7⟩ := (I.sr.boxes _ _ hT).cells hrw.1
    rw [hbk] at k1; cases k1
    have hyv := opd h2 (hrd.mono (fun t ht => by simp [O.tmps, ht]))
    obtain ⟨q1, q2⟩ := D_cells hyv hxv
    have hsz : (a.eval y').cells.size = sz := by rw [← hz, ← q1]; simp
    have hsing : ∀ c ∈ (a.eval y').cells.toList, single c := fun c hcm => by
      obtain ⟨i, hi⟩ := List.mem_iff_getElem?.1 hcm
      have hlt : i < dsv.length := by rw [← q1]; exact (List.getElem?_eq_some_iff.1 hi).1
      exact (q2 i _ c (List.getElem?_eq_getElem hlt) hi).2.1
    have hrun := store_run (P := P) (off := off) h3 hsz hsing k4 (by omega)
    have ha2 : All2 (fun d u => RD M G d u ∧ single u) dsv (a.eval y').cells.toList := ⟨q1, fun i d u hd hu => ⟨(q2 i d u hd hu).1, (q2 i d u hd hu).2.1⟩⟩
    have ha3 := Pre2.setRange (off := off) ⟨k5, k6⟩ ha2 (by omega)
    rw [← expand_of hrw.2] at ha3
    rw [q1] at hrun
    have hSR := I.sr.setBox hbk k2 k3 k4 k7 (by simp; omega) ha3
    have hE : get sE.boxes (tg is s1 d) = some (setRange cs off dsv) := by
      have e1 := boxes_same hS hdr (id := tg is s1 d) (j := j + 1) (is.length - (j + 1)) (by omega) (fun i q hi hi2 hq => by
        rw [hS0]
        refine ⟨fun d' z' hm' e => ?_, fun d' hs' e => ?_⟩
        · by_cases hd : d ∈ allocsOf is
          · obtain ⟨k, y, zero, hkj, hy, hm⟩ : ∃ k y z, k < j ∧ is[k]? = some y ∧ y.makes d z := by
              rcases hor with h | h
              · exact h
              · obtain ⟨k, y, z, hy, hm⟩ := allocsOf_mem hd
                exact absurd hm.2 (h k y hy)
            rw [tg_made hy hm] at e
            have := num_inj e; subst this
            have := uniq i k q y _ hq hy hm'.2 hm.2; omega
          · exact htg.new j x d hx hxs hd i q d' z' hq hm' e
        · have hdd : d' = d := Classical.byContradiction fun h => htg.inj j x d i q d' hx hxs hq hs' h e
          subst hdd
          have := huniq i q hq hs'; omega)
      rw [show j + 1 + (is.length - (j + 1)) = is.length by omega, hSE, hSn, (set_stk _ _ _).2.2.2] at e1
      exact e1.trans (get_put_same _ _ _)
    -- what is made at other places lies elsewhere
    have mkne : ∀ (k : Nat) (y : Ins) (d' : Nat) (z' : List V), is[k]? = some y → y.makes d' z' → d' ≠ d → s1.num d' ≠ tg is s1 d := fun k y d' z' hy hm hne e => by
      by_cases hd : d ∈ allocsOf is
      · obtain ⟨k', y', z'', hy', hm'⟩ := allocsOf_mem hd
        rw [tg_made hy' hm'] at e
        exact hne (num_inj e)
      · exact htg.new j x d hx hxs hd k y d' z' hy hm e
    have made : ∀ (k : Nat) (y : Ins) (z' : List V), is[k]? = some y → y.makes d z' → L.getD k false = true := fun k y z' hy hm => by
      rcases hor with ⟨k', y', z'', hkj, hy', hm'⟩ | h
      · have := uniq k k' y y' d hy hy' hm.2 hm'.2
        subst this
        obtain ⟨o', ho', hon⟩ := ((hdr.one j k x y' d hx hy' hm'.2 (by omega)).2 (by simp [Ins.tmps, hxo, O.tmps, A.tmps])).1 hkj
        rw [ho] at ho'; cases ho'
        obtain ⟨e, he, hbd, rfl⟩ := onto_spec hon
        exact hall e he hbd
      · exact absurd hm.2 (h k y hy)
    refine wpIn_unit hF (fun c hc => by rw [hopp] at hc; cases hc) (w' := w.setRow b (us.take off ++ (a.eval y').cells.toList ++ us.drop (off + dsv.length)).toArray) ?_ (hK M G _ _ _ (next M G _ undef .junk { T with boxes := put T.boxes (tg is s1 d) (setRange cs off dsv) } (fun d' hd' => by rw [hxd] at hd'; cases hd') ⟨I.t.1, I.t.2.1, I.t.2.2.1, I.t.2.2.2.1, I.t.2.2.2.2⟩ hSR ?_ I.g (bn (fun d' z' hm' => by rw [hm'.1] at hxo; cases hxo)) (fun d u hd => hd) trivial))
    · simp only [execOp, hopp, hxe, Sem.run_bind, hrun, Result.andThen_ok]
      rfl
    · refine ⟨fun id hid hid2 => ?_, fun k' y2 d' z' hy2 hm2 hk2 => ?_, fun k' y2 d' z' hy2 hm2 hk2 hst => ?_, fun i y2 d' hy2 hs2 hi => ?_, fun i y2 d' hy2 hs2 hn2 hi => ?_⟩
      · refine (get_put_ne _ _ ?_).trans (I.bx.c1 id hid hid2)
        by_cases hd : d ∈ allocsOf is
        · obtain ⟨k, y, z, hy, hm⟩ := allocsOf_mem hd
          rw [tg_made hy hm]
          exact (hid k y d z hy hm).symm
        · exact (hid2 j x d hx hxs hd).symm
      · have hkj' : k' ≠ j := fun e => by rw [e, getD_set_same hjL] at hk2; cases hk2
        rw [getD_set_other hkj'] at hk2
        have hdd : d' ≠ d := fun e => by
          subst e
          rw [made k' y2 z' hy2 hm2] at hk2; cases hk2
        exact (get_put_ne _ _ (mkne k' y2 d' z' hy2 hm2 hdd)).trans (I.bx.c2 k' y2 d' z' hy2 hm2 hk2)
      · have hkj' : k' ≠ j := fun e => by
          subst e; rw [hx] at hy2; cases hy2
          rw [hm2.1] at hxo; cases hxo
        rw [getD_set_other hkj'] at hk2
        have hdd : d' ≠ d := fun e => by
          subst e
          have := hst j x hx hxs
          rw [getD_set_same hjL] at this; cases this
        refine (get_put_ne _ _ (mkne k' y2 d' z' hy2 hm2 hdd)).trans (I.bx.c3 k' y2 d' z' hy2 hm2 hk2 (fun i y3 hy3 hs3 => ?_))
        have := hst i y3 hy3 hs3
        by_cases e : i = j
        · rw [e]; exact hLj'
        · rw [getD_set_other e] at this; exact this
      · by_cases hij : i = j
        · subst hij
          rw [hx] at hy2; cases hy2
          obtain ⟨sz2, v2, hso⟩ := hs2
          rw [hxo] at hso; cases hso
          exact (get_put_same _ _ _).trans hE.symm
        · rw [getD_set_other hij] at hi
          have hdd : d' ≠ d := fun e => by
            subst e
            exact hij (huniq i y2 hy2 hs2).symm
          exact (get_put_ne _ _ (htg.inj j x d i y2 d' hx hxs hy2 hs2 hdd)).trans (I.bx.c4 i y2 d' hy2 hs2 hi)
      · have hij : i ≠ j := fun e => by rw [e, getD_set_same hjL] at hi; cases hi
        rw [getD_set_other hij] at hi
        have hdd : d' ≠ d := fun e => by
          subst e
          exact hij (huniq i y2 hy2 hs2).symm
        exact (get_put_ne _ _ (htg.inj j x d i y2 d' hx hxs hy2 hs2 hdd)).trans (I.bx.c5 i y2 d' hy2 hs2 hn2 hi)
end

end Go.Evl
