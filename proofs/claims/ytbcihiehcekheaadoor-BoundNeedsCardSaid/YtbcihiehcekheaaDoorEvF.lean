/-
  A value semantics for the program's code, the part on regions that draw their order: from the first place to the last.
  Conditions: none; this text holds definitions and lemmas of their own.
-/
import Derived.Test.YtbcihiehcekheaaDoorEvE
namespace Go.Evl
open Go Go.RowKit
set_option linter.unusedVariables false
set_option linter.unusedSimpArgs false

section
variable {P : Program} {cf : FuncId → List V → Option V} {run : Env → FuncId → List D → St → Option (D × St)} {env : Env} {ρ : Nat → Option (Nat × Loop × Nat)}
variable {F : Fence} {n : Nat} {Q : Exit → Act → World → Prop}
variable {M0 : Mem} {w0 : World} {N : Nat} {ts : List (Array Value)}

/-- The late part: so many places of it have been carried out. -/
structure Late (M0 : Mem) (w0 : World) (N : Nat) (G1 : Gh) (ts : List (Array Value)) (ds : List Deferred) (ops : Array Oper) (is late : List Ins) (S2 : Nat → St) (q : Nat) (L : Array Bool) (M : Mem) (G : Gh) (a : Act) (w : World) : Prop where
  sr : SR M0 w0 M G (a.tmps :: ts) w (S2 q)
  size : a.tmps.size = N
  defers : a.defers = ds
  g : Gstep ts.length G1 G
  lsize : L.size = ops.size
  closed : ∀ i o, L.getD i false = true → ops[i]? = some o → ∀ e ∈ o.after, Region.binds .any e = true → L.getD e.on false = true
  yes : ∀ i, i < is.length + q → L.getD i false = true
  no : ∀ i, is.length + q ≤ i → L.getD i false = false
  le : q ≤ late.length

theorem draw_sound (hF : WideF F) (hcf : CfOk P cf) (hrun : RunOk P M0 w0 run) (henv : EnvOk P M0 w0 env ρ) {ops : Array Oper} {is late : List Ins} {s sE sf : St} {M : Mem} {G : Gh} {a : Act} {w : World} (hok : okInss P N ops.toList ops.toList (is ++ late) = true) (hdr : DrawOk ops is late)
    (hdo : drwOk is (killAll (allocsOf is) s) = true) (hst : steps (step0 std cf (bxD is (killAll (allocsOf is) s))) is (killAll (allocsOf is) s) = some sE) (hst2 : steps (step1 ⟨std, cf, run⟩ env) late sE = some sf)
    (hρ : ∀ j q, ρ j = some q → G.lp j = some q) (hl : Lower G ts.length) (hN : a.tmps.size = N) (h : SR M0 w0 M G (a.tmps :: ts) w s)
    (hQ : ∀ M' G' a' w', SR M0 w0 M' G' (a'.tmps :: ts) w' sf → a'.tmps.size = N → a'.defers = a.defers → Gstep ts.length G G' → Q .normal a' w') : wpAnyIn F n P .any ops Q ops.size (Array.replicate ops.size false) a w := by
  obtain ⟨G1, hk1, hk2, hk3, hk4, hk5, hk6, hk7⟩ := killAll_SR (allocsOf is) G s h
  generalize hs1 : killAll (allocsOf is) s = s1 at hst hdo hk1 hk4 hk6 hk7
  have htg := drwOk_spec hdo
  have hg1 : Gstep ts.length G G1 := Gstep.same hk2 hk3
  have hl1 := hl.step hg1
  have hρ1 := rho_step hρ hg1
  have hnum : ∀ d, s1.num d = s.num d := fun d => by simp only [St.num, hk4]
  obtain ⟨S, hS0, hSE, hS⟩ := seq_of is s1 sE hst
  obtain ⟨S2, hS20, hS2E, hS2⟩ := seq_of late sE sf hst2
  obtain ⟨hlen, hins⟩ := okInss_get hok
  have hlen : ops.size = is.length + late.length := by simpa using hlen
  have hkill : ∀ (k : Nat) (x : Ins) (d : Nat) (z : List V), is[k]? = some x → x.makes d z → get s1.boxes (s1.num d) = none := fun k x d z hx hm => by
    rw [hnum]; exact (hk7 d (mem_allocsOf hx hm)).2
  -- the late part
  have lateStep : ∀ (q : Nat) (L : Array Bool) (M : Mem) (G : Gh) (a' : Act) (w : World) (K : Act → World → Prop) (i : Nat), Late M0 w0 N G1 ts a.defers ops is late S2 q L M G a' w → i ∈ Region.ready .any ops L →
      (∀ M' G' a2 w', Late M0 w0 N G1 ts a.defers ops is late S2 (q + 1) (L.setIfInBounds i true) M' G' a2 w' → K a2 w') → wpOpIn F n P ops Q i K a' w := by
    intro q L M G a' w K i B hi hK
    obtain ⟨hLi, o, ho, hall⟩ := mem_ready.1 hi
    have his : i < ops.size := (Array.getElem?_eq_some_iff.1 ho).1
    have hiL : i < L.size := by rw [B.lsize]; exact his
    have hLi' := (getD_flip hiL).1 hLi
    have hge : is.length + q ≤ i := by
      rcases Nat.lt_or_ge i (is.length + q) with hlt | hge
      · have := B.yes i hlt
        rw [hLi'] at this; cases this
      · exact hge
    obtain ⟨q', rfl⟩ : ∃ q', i = is.length + q' := ⟨i - is.length, by omega⟩
    have hq' : q' < late.length := by omega
    have hx : late[q']? = some late[q'] := List.getElem?_eq_getElem hq'
    generalize late[q'] = x at hx
    obtain ⟨o', ho', hed, hre⟩ := hdr.late q' x hx
    rw [ho] at ho'; cases ho'
    have hqq : q' = q := by
      rcases Nat.lt_or_ge q q' with hlt | hge'
      · exfalso
        have := reach_closed B.closed ops.size (is.length + q') (is.length + q) o ho hall (hre _ (by omega))
        rw [B.no _ (Nat.le_refl _)] at this; cases this
      · omega
    subst hqq
    have hoki := hins (is.length + q') o x (by simpa using ho) (by rw [List.getElem?_append_right (by omega), show is.length + q' - is.length = q' by omega]; exact hx)
    unfold wpOpIn
    rw [ho]
    refine step1_one hF hcf hrun henv (rho_step hρ1 B.g) (hl1.step B.g) B.size B.sr hoki (hS2 q' x hx) (fun M' G' a2 w' k1 k2 k3 k4 => hK M' G' a2 w' ⟨k1, k2, k3.trans B.defers, B.g.trans k4, by simpa using B.lsize, ?_, ?_, ?_, by omega⟩)
    · intro j o' hj ho' e he hbd
      have hLe : L.getD e.on false = true := by
        by_cases ej : j = is.length + q'
        · subst ej
          rw [ho] at ho'; cases ho'
          exact hall e he hbd
        · rw [getD_set_other ej] at hj
          exact B.closed j o' hj ho' e he hbd
      by_cases ee : e.on = is.length + q'
      · rw [ee]; exact getD_set_same hiL _
      · rw [getD_set_other ee]; exact hLe
    · intro j hj
      by_cases ej : j = is.length + q'
      · rw [ej]; exact getD_set_same hiL _
      · rw [getD_set_other ej]; exact B.yes j (by omega)
    · intro j hj
      rw [getD_set_other (by omega)]; exact B.no j (by omega)
  have lateDone : ∀ (q : Nat) (L : Array Bool) (M : Mem) (G' : Gh) (a' : Act) (w : World), Late M0 w0 N G1 ts a.defers ops is late S2 q L M G' a' w → Region.ready .any ops L = [] → Q .normal a' w := by
    intro q L M G' a' w B hr
    rcases Nat.lt_or_ge q late.length with hlt | hge
    · exfalso
      have hx : late[q]? = some late[q] := List.getElem?_eq_getElem hlt
      obtain ⟨o, ho, hed, _⟩ := hdr.late q _ hx
      have hiL : is.length + q < L.size := by rw [B.lsize]; omega
      have : is.length + q ∈ Region.ready .any ops L := mem_ready.2 ⟨(getD_flip hiL).2 (B.no _ (Nat.le_refl _)), o, ho, fun e he hb => B.yes _ (hed e he hb)⟩
      rw [hr] at this; cases this
    · have : q = late.length := by have := B.le; omega
      subst this
      have hs := B.sr
      rw [hS2E] at hs
      exact hQ M G' a' w hs B.size B.defers (hg1.trans B.g)
  -- from the early part to the late one
  have turn : ∀ (L : Array Bool) (M : Mem) (G : Gh) (a' : Act) (w : World) (T : St), Inv M0 w0 N G1 ts a.defers ops is s1 sE L M G a' w T → (∀ i, is.length ≤ i → L.getD i false = false) → (∀ i, i < is.length → L.getD i false = true) → Late M0 w0 N G1 ts a.defers ops is late S2 0 L M G a' w := by
    intro L M G a' w T I hno hyes
    refine ⟨?_, I.size, I.defers, Gstep.same I.g.1 I.g.2, I.lsize, I.closed, fun i hi => hyes i (by omega), fun i hi => hno i (by omega), Nat.zero_le _⟩
    rw [hS20]
    obtain ⟨r1, r2, r3, r4⟩ := rest_same hS is.length (Nat.le_refl _)
    rw [hSE, hS0] at r1 r2 r3 r4
    refine I.sr.withRegs (r1.trans I.t.2.1.symm) (fun id => ?_) (r2.trans I.t.2.2.1.symm) (r3.trans I.t.2.2.2.1.symm) (r4.trans I.t.2.2.2.2.symm) (fun t d ht => ?_)
    · by_cases hf : ∃ (k : Nat) (x : Ins) (d : Nat) (z : List V), is[k]? = some x ∧ x.makes d z ∧ s1.num d = id
      · obtain ⟨k, x, d, z, hx, hm, rfl⟩ := hf
        have hkl : k < is.length := (List.getElem?_eq_some_iff.1 hx).1
        by_cases hs : ∃ (j : Nat) (y : Ins), is[j]? = some y ∧ y.stores d
        · obtain ⟨j, y, hy, hsy⟩ := hs
          have := (I.bx.c4 j y d hy hsy (hyes j (List.getElem?_eq_some_iff.1 hy).1)).symm
          rw [tg_made hx hm] at this
          exact this
        · rw [I.bx.c3 k x d z hx hm (hyes k hkl) (fun j y hy hsy => absurd ⟨j, y, hy, hsy⟩ hs)]
          have e1 := boxes_same hS hdr (id := s1.num d) (j := k + 1) (is.length - (k + 1)) (by omega) (fun i q hi hi2 hq => by
            rw [hS0]
            refine ⟨fun d' z' hm' e => ?_, fun d' hs' e => ?_⟩
            · have := num_inj e; subst this
              have hik : i ≠ k := by omega
              exact absurd hm'.2 (hdr.one i k q x _ hq hx hm.2 hik).1
            · have hdd : d' = d := Classical.byContradiction fun hne => by
                by_cases hd' : d' ∈ allocsOf is
                · obtain ⟨k', x', z', hx', hm'⟩ := allocsOf_mem hd'
                  rw [tg_made hx' hm'] at e
                  exact hne (num_inj e)
                · exact htg.new i q d' hq hs' hd' k x d z hx hm e.symm
              subst hdd
              exact hs ⟨i, q, hq, hs'⟩)
          rw [show k + 1 + (is.length - (k + 1)) = is.length by omega, hSE, alloc_step hS hdr hx hm, (set_stk _ _ _).2.2.2, num_same hS hdr (by omega), hS0] at e1
          exact e1.trans (get_put_same _ _ _)
      · by_cases ho : ∃ (j : Nat) (y : Ins) (d : Nat), is[j]? = some y ∧ y.stores d ∧ tg is s1 d = id
        · obtain ⟨j, y, d, hy, hs, rfl⟩ := ho
          exact (I.bx.c4 j y d hy hs (hyes j (List.getElem?_eq_some_iff.1 hy).1)).symm
        rw [I.bx.c1 id (fun k x d z hx hm e => hf ⟨k, x, d, z, hx, hm, e⟩) (fun j y d hy hs _ e => ho ⟨j, y, d, hy, hs, e⟩)]
        have e1 := boxes_same hS hdr (id := id) (j := 0) is.length (by omega) (fun i q hi hi2 hq => by
          rw [hS0]
          exact ⟨fun d' z' hm' e => hf ⟨i, q, d', z', hq, hm', e⟩, fun d' hs' e => ho ⟨i, q, d', hq, hs', e⟩⟩)
        rw [Nat.zero_add, hSE, hS0] at e1
        exact e1
    · by_cases hw : ∃ (i : Nat) (x : Ins), is[i]? = some x ∧ x.dst = some t
      · obtain ⟨i, x, hx, hd⟩ := hw
        exact I.new i x t d hx hd (hyes i (List.getElem?_eq_some_iff.1 hx).1) ht
      · have e := regs_same hS (j := 0) (t := t) is.length (by omega) (fun k x _ _ hk hd => hw ⟨k, x, hk, hd⟩)
        rw [Nat.zero_add, hSE, hS0] at e
        rw [e] at ht
        exact I.old t d (fun i x hx hd => absurd ⟨i, x, hx, hd⟩ hw) ht
  have main : ∀ (fuel : Nat) (L : Array Bool) (M : Mem) (G : Gh) (a' : Act) (w : World), ((∃ T, Inv M0 w0 N G1 ts a.defers ops is s1 sE L M G a' w T ∧ ∀ i, is.length ≤ i → L.getD i false = false) ∨ (∃ q, Late M0 w0 N G1 ts a.defers ops is late S2 q L M G a' w)) →
      L.toList.count false = fuel → wpAnyIn F n P .any ops Q fuel L a' w := by
    intro fuel
    have done : ∀ (L : Array Bool) (M : Mem) (G : Gh) (a' : Act) (w : World), ((∃ T, Inv M0 w0 N G1 ts a.defers ops is s1 sE L M G a' w T ∧ ∀ i, is.length ≤ i → L.getD i false = false) ∨ (∃ q, Late M0 w0 N G1 ts a.defers ops is late S2 q L M G a' w)) →
        Region.ready .any ops L = [] → Q .normal a' w := by
      intro L M G a' w hh hr
      rcases hh with ⟨T, I, hno⟩ | ⟨q, B⟩
      · have all : ∀ m i, i < m → i < is.length → L.getD i false = true := by
          intro m
          induction m with
          | zero => intro i h; omega
          | succ m ih =>
            intro i hi hlt
            rcases Nat.lt_or_ge i m with h | h
            · exact ih i h hlt
            · have him : i = m := by omega
              subst him
              cases hb : L.getD i false with
              | true => rfl
              | false =>
                have hx : is[i]? = some is[i] := List.getElem?_eq_getElem hlt
                obtain ⟨o, ho, hedge⟩ := hdr.back i _ hx
                have hiL : i < L.size := by rw [I.lsize]; omega
                have : i ∈ Region.ready .any ops L := mem_ready.2 ⟨(getD_flip hiL).2 hb, o, ho, fun e he hbd => ih e.on (hedge e he hbd) (by have := hedge e he hbd; omega)⟩
                rw [hr] at this; cases this
        exact lateDone 0 L M G a' w (turn L M G a' w T I hno (fun i hi => all (i + 1) i (by omega) hi)) hr
      · exact lateDone q L M G a' w B hr
    have lsize : ∀ {L : Array Bool} {M : Mem} {G : Gh} {a' : Act} {w : World}, ((∃ T, Inv M0 w0 N G1 ts a.defers ops is s1 sE L M G a' w T ∧ ∀ i, is.length ≤ i → L.getD i false = false) ∨ (∃ q, Late M0 w0 N G1 ts a.defers ops is late S2 q L M G a' w)) → L.size = ops.size := by
      rintro L M G a' w (⟨T, I, _⟩ | ⟨q, B⟩)
      · exact I.lsize
      · exact B.lsize
    induction fuel with
    | zero =>
      intro L M G a' w hh hc
      have hr : Region.ready .any ops L = [] := by
        cases hr : Region.ready .any ops L with
        | nil => rfl
        | cons j r =>
          have hj : j ∈ Region.ready .any ops L := by rw [hr]; simp
          obtain ⟨hLj, o, ho, _⟩ := mem_ready.1 hj
          have hjl : j < L.size := by rw [lsize hh]; exact (Array.getElem?_eq_some_iff.1 ho).1
          have : L[j] = false := by simpa [Array.getD_eq_getD_getElem?, hjl] using hLj
          have hmem : false ∈ L.toList := by rw [← this]; simp
          exact absurd hc (by have := List.count_pos_iff.2 hmem; omega)
      exact ⟨hr, done L M G a' w hh hr⟩
    | succ fuel ih =>
      intro L M G a' w hh hc
      refine ⟨done L M G a' w hh, fun j hj => ?_⟩
      obtain ⟨hLj, o, ho, hall⟩ := mem_ready.1 hj
      have hjs : j < ops.size := (Array.getElem?_eq_some_iff.1 ho).1
      have hjl : j < L.size := by rw [lsize hh]; exact hjs
      have hcount : (L.setIfInBounds j true).toList.count false = fuel := by
        have : L[j] = false := by simpa [Array.getD_eq_getD_getElem?, hjl] using hLj
        rw [Array.toList_setIfInBounds, List.count_set (by simpa using hjl)]
        simp [this, hc]
      have fromLate : ∀ q, Late M0 w0 N G1 ts a.defers ops is late S2 q L M G a' w → wpOpIn F n P ops Q j (wpAnyIn F n P .any ops Q fuel (L.setIfInBounds j true)) a' w := fun q B =>
        lateStep q L M G a' w _ j B hj (fun M' G' a2 w' B' => ih _ M' G' a2 w' (.inr ⟨q + 1, B'⟩) hcount)
      rcases hh with ⟨T, I, hno⟩ | ⟨q, B⟩
      · rcases Nat.lt_or_ge j is.length with hlt | hge
        · exact draw_step hF hcf hl1 hok hdr hkill htg hS0 hSE hS I hj hlt (fun M' G' a2 w' T' I' => ih _ M' G' a2 w' (.inl ⟨T', I', fun i hi => by rw [getD_set_other (by omega)]; exact hno i hi⟩) hcount)
        · obtain ⟨q', rfl⟩ : ∃ q', j = is.length + q' := ⟨j - is.length, by omega⟩
          have hx : late[q']? = some (late[q']'(by omega)) := List.getElem?_eq_getElem _
          obtain ⟨o', ho', hed, hre⟩ := hdr.late q' _ hx
          rw [ho] at ho'; cases ho'
          exact fromLate 0 (turn L M G a' w T I hno (fun i hi => reach_closed I.closed ops.size (is.length + q') i o ho hall (hre i (by omega))))
      · exact fromLate q B
  refine main ops.size _ M G1 a w (.inl ⟨{ s1 with regs := [] }, ⟨⟨rfl, rfl, rfl, rfl, rfl⟩, ?_, ⟨fun _ _ _ => rfl, fun k x d z hx hm _ => hkill k x d z hx hm, fun k x d z hx hm hk => ?_, fun j y d hy hs hj => ?_, fun _ _ _ _ _ _ _ => rfl⟩, hN, rfl, by simp, ⟨rfl, rfl⟩, ?_, fun k x d z hx hm _ => by rw [hnum]; exact (hk7 d (mem_allocsOf hx hm)).1, fun t d _ ht => hk1.frames.here t d ht, fun i x t d hx _ hi => ?_⟩, fun i hi => ?_⟩) (by simp)
  · exact ⟨hk1.ext, hk1.frames.head (fun j d hd => by simp [get] at hd), hk1.boxes, hk1.rows, hk1.loops, hk1.recs, hk1.inj, hk1.marks⟩
  · have hlt : k < ops.size := by have := (List.getElem?_eq_some_iff.1 hx).1; omega
    simp [Array.getD_eq_getD_getElem?, hlt] at hk
  · have hlt : j < ops.size := by have := (List.getElem?_eq_some_iff.1 hy).1; omega
    simp [Array.getD_eq_getD_getElem?, hlt] at hj
  · intro i o hi ho
    have hlt := (Array.getElem?_eq_some_iff.1 ho).1
    simp [Array.getD_eq_getD_getElem?, hlt] at hi
  · have hlt : i < ops.size := by have := (List.getElem?_eq_some_iff.1 hx).1; omega
    simp [Array.getD_eq_getD_getElem?, hlt] at hi
  · by_cases hlt : i < ops.size
    · simp [Array.getD_eq_getD_getElem?, hlt]
    · simp [Array.getD_eq_getD_getElem?, hlt]
end

end Go.Evl
