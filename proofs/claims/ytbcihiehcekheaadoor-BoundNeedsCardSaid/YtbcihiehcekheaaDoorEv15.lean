/-
  A value semantics for the program's code, part 15: a region that draws nothing; what is kept behind a region.
  Conditions: none; this text holds definitions and lemmas of their own.
-/
import Derived.Test.YtbcihiehcekheaaDoorEv14
namespace Go.Evl
open Go Go.RowKit
set_option linter.unusedVariables false
set_option linter.unusedSimpArgs false


theorem put_same {a : Act} {d : Nat} {v : Value} (h : d < a.tmps.size) : (a.put (some d) v).tmps.getD d undef = v := by
  simp [Act.put, Array.getD_eq_getD_getElem?, h]
theorem put_ne {a : Act} {d t : Nat} {v : Value} (h : t ≠ d) : (a.put (some d) v).tmps.getD t undef = a.tmps.getD t undef := by
  simp [Act.put, Array.getD_eq_getD_getElem?, Array.getElem?_setIfInBounds, Ne.symm h]
theorem put_size (a : Act) (d : Option Nat) (v : Value) : (a.put d v).tmps.size = a.tmps.size := by
  cases d <;> simp [Act.put]
theorem put_defers (a : Act) (d : Option Nat) (v : Value) : (a.put d v).defers = a.defers := by
  cases d <;> rfl

/-- The records of the loops that are under way are of lower frames. -/
def Lower (G : Gh) (h : Nat) : Prop := ∀ lvl l r h', G.lp lvl = some (l, r, h') → h' < h

section
variable {M0 : Mem} {w0 : World} {N : Nat} {M : Mem} {G : Gh} {a : Act} {ts : List (Array Value)} {w : World} {s : St}

theorem SR.height {t : Array Value} (h : SR M0 w0 M G (t :: ts) w s) : s.stk.length = ts.length := by simpa using h.frames.1

theorem head_get {t t' : Array Value} {ts : List (Array Value)} {h : Nat} (hl : h < ts.length) : (t' :: ts)[(t' :: ts).length - 1 - h]? = (t :: ts)[(t :: ts).length - 1 - h]? := by
  obtain ⟨k, hk⟩ : ∃ k, (t' :: ts).length - 1 - h = k + 1 := ⟨ts.length - 1 - h, by simp; omega⟩
  have hk' : (t :: ts).length - 1 - h = k + 1 := by simpa using hk
  rw [hk, hk']; rfl

theorem SR.set (h : SR M0 w0 M G (a.tmps :: ts) w s) (hl : Lower G ts.length) {dst : Option Nat} {d : D} {v : Value} (hd : ∀ t, dst = some t → t < a.tmps.size) (hr : RD M G d v) : SR M0 w0 M G ((a.put dst v).tmps :: ts) w (s.set dst d) := by
  cases dst with
  | none => exact h
  | some t =>
    refine ⟨h.ext, h.frames.head (fun j e hj => ?_), h.boxes, h.rows, h.loops, fun lvl l r h' hp => ?_, h.inj, h.marks⟩
    · simp only [St.set] at hj
      by_cases e' : j = t
      · subst e'
        rw [get_cons_same] at hj
        cases hj
        rw [put_same (hd _ rfl)]
        exact hr
      · rw [get_cons_ne _ _ e'] at hj
        rw [put_ne e']
        exact h.frames.here j e hj
    · obtain ⟨k1, k2, k3, k4⟩ := h.recs lvl l r h' hp
      exact ⟨k1, k2, by simpa using k3, by rw [head_get (hl lvl l r h' hp)]; exact k4⟩

theorem getD_bool {a : Act} {g : Nat} {b : Bool} (h : a.tmps.getD g undef = .bool b) : a.tmps[g]? = some (.bool b) := by
  rw [Array.getD_eq_getD_getElem?] at h
  cases hg : a.tmps[g]? with
  | none => rw [hg] at h; simp [undef] at h
  | some v => rw [hg] at h; simp at h; rw [h]
theorem Lower.step {G G' : Gh} {h k : Nat} (hl : Lower G h) (hg : Gstep k G G') : Lower G' h := fun lvl l r h' hp => hl lvl l r h' (by rw [← hg.1]; exact hp)
theorem rho_step {ρ : Nat → Option (Nat × Loop × Nat)} {G G' : Gh} {k : Nat} (hρ : ∀ j q, ρ j = some q → G.lp j = some q) (hg : Gstep k G G') : ∀ j q, ρ j = some q → G'.lp j = some q := fun j q hq => by rw [hg.1]; exact hρ j q hq
end

section
variable {P : Program} {o : Oper} {cf : FuncId → List V → Option V} {run : Env → FuncId → List D → St → Option (D × St)} {env : Env} {ρ : Nat → Option (Nat × Loop × Nat)}
variable {F : Fence} {n : Nat} {Q : Exit → Act → World → Prop}
variable {M0 : Mem} {w0 : World} {N : Nat} {M : Mem} {G : Gh} {a : Act} {ts : List (Array Value)} {w : World} {s : St}

theorem okIns_op {ops : List Oper} {i : Ins} (h : okIns P N ops o i = true) : okOp P o.op i.op = true ∧ o.dst = i.dst ∧ (∀ t, o.dst = some t → t < N) := by
  unfold okIns at h
  simp only [Bool.and_eq_true] at h
  obtain ⟨⟨h1, _⟩, h3⟩ := h
  refine ⟨h3, ?_⟩
  split at h1
  · rename_i e1 e2; rw [e1, e2]; exact ⟨rfl, by simp⟩
  · rename_i d d' e1 e2
    simp only [Bool.and_eq_true, beq_iff_eq, Nat.blt_eq] at h1
    obtain ⟨rfl, h1⟩ := h1
    rw [e1, e2]
    refine ⟨rfl, fun t ht => ?_⟩
    cases ht; exact h1
  · cases h1

/-- The guard, as the machine looks at it. -/
theorem wanted_eq {ops : Array Oper} {i : Ins} {b : Bool} (h : okIns P N ops.toList o i = true) (hw : wantsV s i.guard = some b)
    (hr : ∀ g want, i.guard = some (g, want) → RD M G ((get s.regs g).getD .junk) (a.tmps.getD g undef)) : Region.wanted o (yielded ops a.tmps) = b := by
  unfold okIns at h
  simp only [Bool.and_eq_true] at h
  obtain ⟨⟨_, h2⟩, _⟩ := h
  split at h2
  · rename_i e1 e2
    rw [e2] at hw
    simp only [wantsV, Option.some.injEq] at hw
    simp [Region.wanted, e1, hw]
  · rename_i j want g want' e1 e2
    simp only [Bool.and_eq_true, beq_iff_eq] at h2
    obtain ⟨h3, rfl⟩ := h2
    rw [e2] at hw
    simp only [wantsV] at hw
    split at hw
    · rename_i c hc
      simp only [Option.some.injEq] at hw
      have := hr g want e2
      rw [hc] at this
      have hb := getD_bool (RD_bool this)
      have hy : yielded ops a.tmps j = some c := by
        rw [Array.getElem?_toList] at h3
        simp [yielded, h3, hb]
      simp only [Region.wanted, e1, hy]
      rw [← hw]
      cases c <;> cases want <;> rfl
    · rename_i hc
      simp only [Option.some.injEq] at hw
      have hu : a.tmps.getD g undef = undef := by
        have := hr g want e2
        rw [hc] at this
        exact this
      have hy : yielded ops a.tmps j = none := by
        rw [Array.getElem?_toList] at h3
        rw [Array.getD_eq_getD_getElem?] at hu
        unfold yielded
        rw [h3, Option.bind_some]
        cases hg : a.tmps[g]? with
        | none => rfl
        | some v =>
          rw [hg] at hu
          simp at hu
          subst hu
          rfl
      simp only [Region.wanted, e1, hy]
      rw [← hw]
      rfl
    · cases hw
  · cases h2

theorem get_keepRegs {regs : List (Nat × D)} : ∀ {ks : List Nat} {t : Nat} {d : D}, get (keepRegs regs ks) t = some d → get regs t = some d
  | [], _, _, h => by simp [keepRegs, get] at h
  | k :: ks, t, d, h => by
    simp only [keepRegs] at h
    split at h
    · exact get_keepRegs h
    · exact get_keepRegs h
    · rename_i d0 hd0 h0
      by_cases e : t = k
      · subst e
        rw [get_cons_same] at h
        rw [h0, h]
      · rw [get_cons_ne _ _ e] at h
        exact get_keepRegs h
theorem SR.prune {t : Array Value} (h : SR M0 w0 M G (t :: ts) w s) (l : Option (List Nat)) : SR M0 w0 M G (t :: ts) w (s.prune l) := by
  cases l with
  | none => exact h
  | some l => exact ⟨h.ext, h.frames.head (fun j d hj => h.frames.here j d (get_keepRegs hj)), h.boxes, h.rows, h.loops, h.recs, h.inj, h.marks⟩
theorem prune_stk (s : St) (l : Option (List Nat)) : (s.prune l).stk = s.stk := by cases l <;> rfl
theorem steps1_sound (hF : WideF F) (hcf : CfOk P cf) (hrun : RunOk P M0 w0 run) (henv : EnvOk P M0 w0 env ρ) {ops : Array Oper} : ∀ (os : List Oper) (is : List Ins) (s s' : St) (M : Mem) (G : Gh) (a : Act) (w : World), (∀ j q, ρ j = some q → G.lp j = some q) → Lower G ts.length → a.tmps.size = N →
    SR M0 w0 M G (a.tmps :: ts) w s → okInss P N ops.toList os is = true → steps (step1 ⟨std, cf, run⟩ env) is s = some s' →
    (∀ M' G' a' w', SR M0 w0 M' G' (a'.tmps :: ts) w' s' → a'.tmps.size = N → a'.defers = a.defers → Gstep ts.length G G' → Q .normal a' w') → wpListIn F n P ops Q os a w
  | [], [], s, s', M, G, a, w, hρ, hl, hN, h, _, he, hQ => by
    simp only [steps, Option.some.injEq] at he
    subst he
    exact hQ M G a w h hN rfl (Gstep.refl _ _)
  | o :: os, i :: is, s, s', M, G, a, w, hρ, hl, hN, h, hok, he, hQ => by
    simp only [okInss, Bool.and_eq_true] at hok
    obtain ⟨ho, hos⟩ := hok
    simp only [steps] at he
    split at he
    · rename_i s1 hs1
      obtain ⟨hop, hdst, hN'⟩ := okIns_op ho
      simp only [step1] at hs1
      have h := h.prune i.lv
      generalize s.prune i.lv = s at h hs1
      have hg : ∀ g want, i.guard = some (g, want) → RD M G ((get s.regs g).getD .junk) (a.tmps.getD g undef) := fun g want _ => (h.reads [g]).tmp g (by simp)
      simp only [wpListIn]
      split at hs1
      · rename_i hw
        rw [wanted_eq ho hw hg, if_pos rfl]
        split at hs1
        · rename_i d' s2 hv
          simp only [Option.some.injEq] at hs1
          subst hs1
          refine ev1_sound hF hcf hrun henv hρ h hop hv (fun v M' G' w' hst hSR hRD => ?_)
          rw [h.height] at hst
          have := hSR.set (hl.step hst) (fun t ht => by rw [hN]; exact hN' t ht) hRD
          rw [← hdst] at he
          exact steps1_sound hF hcf hrun henv os is _ s' M' G' _ w' (rho_step hρ hst) (hl.step hst) (by rw [put_size]; exact hN) this hos he (fun M2 G2 a2 w2 k1 k2 k3 k4 => hQ M2 G2 a2 w2 k1 k2 (by rw [k3, put_defers]) (hst.trans k4))
        · cases hs1
      · rename_i hw
        rw [wanted_eq ho hw hg]
        simp only [Option.some.injEq] at hs1
        subst hs1
        refine ⟨fun f _ => hF.fn f, ?_⟩
        have := h.set hl (d := .undef) (v := undef) (dst := o.dst) (fun t ht => by rw [hN]; exact hN' t ht) rfl
        rw [← hdst] at he
        exact steps1_sound hF hcf hrun henv os is _ s' M G _ w hρ hl (by rw [put_size]; exact hN) this hos he (fun M2 G2 a2 w2 k1 k2 k3 k4 => hQ M2 G2 a2 w2 k1 k2 (by rw [k3, put_defers]) k4)
      · cases hs1
    · cases he
  | [], _ :: _, _, _, _, _, _, _, _, _, _, _, hok, _, _ => by simp [okInss] at hok
  | _ :: _, [], _, _, _, _, _, _, _, _, _, _, hok, _, _ => by simp [okInss] at hok
end

/-! ### What is kept -/
section
variable {M0 : Mem} {w0 : World} {M : Mem} {G : Gh} {ts : List (Array Value)} {w : World} {s : St}

theorem get_keepBoxes {fr : List (List (Nat × D))} {all : List (Nat × List D)} : ∀ {l : List (Nat × List D)} {k : Nat} {cs : List D}, get (keepBoxes fr all l) k = some cs → (saidInStk k fr || saidInBoxes k all) = true ∧ get l k = some cs
  | [], _, _, h => by simp [keepBoxes, get] at h
  | (k0, cs0) :: l, k, cs, h => by
    simp only [keepBoxes, Bool.cond_eq_ite] at h
    split at h
    · rename_i hp
      by_cases e : k = k0
      · subst e
        rw [get_cons_same] at h ⊢
        exact ⟨hp, h⟩
      · rw [get_cons_ne _ _ e] at h ⊢
        exact get_keepBoxes h
    · rename_i hp
      obtain ⟨h1, h2⟩ := get_keepBoxes h
      have e : k ≠ k0 := fun e => hp (e ▸ h1)
      rw [get_cons_ne _ _ e]
      exact ⟨h1, h2⟩
theorem get_keepRows {fr : List (List (Nat × D))} {all : List (Nat × List D)} : ∀ {l : List (Nat × Nat)} {k : Nat} {n : Nat}, get (keepRows fr all l) k = some n → (saidInStk k fr || saidInBoxes k all) = true ∧ get l k = some n
  | [], _, _, h => by simp [keepRows, get] at h
  | (k0, cs0) :: l, k, cs, h => by
    simp only [keepRows, Bool.cond_eq_ite] at h
    split at h
    · rename_i hp
      by_cases e : k = k0
      · subst e
        rw [get_cons_same] at h ⊢
        exact ⟨hp, h⟩
      · rw [get_cons_ne _ _ e] at h ⊢
        exact get_keepRows h
    · rename_i hp
      obtain ⟨h1, h2⟩ := get_keepRows h
      have e : k ≠ k0 := fun e => hp (e ▸ h1)
      rw [get_cons_ne _ _ e]
      exact ⟨h1, h2⟩

def Gh.fresh (G : Gh) : Gh := { G with rows := fun j => (G.rows j).map fun r => { r with ver := 0 } }
theorem RD.fresh {rows : List (Nat × Nat)} (hr : ∀ id v, get rows id = some v → ∃ row, G.rows id = some row ∧ row.ver = v) {d : D} {u : Value} (h : RD M G d u) : RD M G.fresh (d.fresh rows) u := by
  cases d with
  | junk => trivial
  | undef => exact h
  | p v => exact h
  | mptr j off => exact h
  | yld lvl => exact h
  | row t xs => trivial
  | msl j sz lo len => exact h
  | mel j sz i off => exact h
  | mclo f cs =>
    obtain ⟨us, e, hl, hc⟩ := h
    refine ⟨us, e, hl, fun i c u hi hu => ?_⟩
    have := hc i c u hi hu
    cases c <;> exact this
  | own j ver ty xs =>
    simp only [D.fresh]
    split
    · rename_i v hv
      rw [Bool.cond_eq_ite]
      split
      · rename_i he
        simp only [beq_iff_eq] at he
        obtain ⟨row, h1, h2⟩ := hr j v hv
        refine ⟨h.1, fun row' hrow => ?_⟩
        simp only [Gh.fresh, h1, Option.map_some, Option.some.injEq] at hrow
        subst hrow
        exact ⟨Nat.le_refl _, fun _ => (h.2 row h1).2 (h2.trans he)⟩
      · exact h.1
    · exact h.1

theorem SR.keep {t : Array Value} (h : SR M0 w0 M G (t :: ts) w s) (ks : List Nat) : SR M0 w0 M G.fresh (t :: ts) w (s.keep ks) := by
  have hr : ∀ id v, get s.rows id = some v → ∃ row, G.rows id = some row ∧ row.ver = v := fun id v hv => by
    obtain ⟨row, h1, h2, _⟩ := h.rows id v hv
    exact ⟨row, h1, h2⟩
  refine ⟨h.ext, ?_, fun j cs hj => ?_, fun j v hj => ?_, h.loops, h.recs, h.inj, h.marks⟩
  · refine Frames.cons (h.frames.tail.map (fun d u hd => hd.fresh hr)) (fun j d ht => ?_)
    obtain ⟨d0, h0, rfl⟩ := get_mapV_some ht
    exact (h.frames.here j d0 (get_keepRegs h0)).fresh hr
  · obtain ⟨cs0, h0, rfl⟩ := get_mapV_some hj
    exact (h.boxes j cs0 (get_keepBoxes h0).2).upd (fixes_fresh s.rows) (Sub.refl M) rfl (fun b _ _ _ => ⟨rfl, rfl, fun _ _ => rfl⟩) (fun d u hu => hu.fresh hr)
  · obtain ⟨v0, h0, rfl⟩ := get_mapV_some (f := fun _ => 0) (l := keepRows _ _ s.rows) hj
    obtain ⟨row, h1, h2, h3⟩ := h.rows j v0 (get_keepRows h0).2
    exact ⟨{ row with ver := 0 }, by simp [Gh.fresh, h1], rfl, h3⟩

/-- A box turns no more. -/
theorem RD.norm {d : D} {u : Value} (h : RD M G d u) : RD M G d.norm u := by
  cases d with
  | p v => exact R.norm h
  | mclo f cs =>
    obtain ⟨us, e, hl, hc⟩ := h
    refine ⟨us, e, by simpa using hl, fun i c u hi hu => ?_⟩
    rw [List.getElem?_map] at hi
    obtain ⟨c0, hc0, rfl⟩ := Option.map_eq_some_iff.1 hi
    have := hc i c0 u hc0 hu
    cases c0 with
    | p v => exact R.norm this
    | mptr id off => exact this
  | junk => trivial
  | undef => exact h
  | mptr j off => exact h
  | yld lvl => exact h
  | own j ver ty xs => exact h
  | row t xs => trivial
  | msl j sz lo len => exact h
  | mel j sz i off => exact h
theorem SR.norm (h : SR M0 w0 M G ts w s) : SR M0 w0 M G ts w s.norm := by
  refine ⟨h.ext, ?_, fun j cs hj => ?_, h.rows, h.loops, h.recs, h.inj, h.marks⟩
  · exact h.frames.map (fun d u hd => hd.norm)
  · obtain ⟨cs0, h0, rfl⟩ := get_mapV_some hj
    exact (h.boxes j cs0 h0).upd fixes_norm (Sub.refl M) rfl (fun b _ _ _ => ⟨rfl, rfl, fun _ _ => rfl⟩) (fun d u hu => hu.norm)

theorem isRow_allV {cs : List D} {vs : List V} (h : allV cs = some vs) : isRow cs = false := by
  match cs with
  | [] => rfl
  | [d] =>
    cases d <;> first | rfl | (simp [allV, D.toV] at h)
  | d :: e :: r => cases d <;> rfl
theorem SR.freeze {tm : Array Value} (h : SR M0 w0 M G (tm :: ts) w s) {t id : Nat} {cs : List D} {vs : List V} (ht : get s.regs t = some (.mptr id 0)) (hb : get s.boxes id = some cs) (hv : allV cs = some vs) :
    ∃ M', SR M0 w0 M' G (tm :: ts) w { s.kill id with regs := (t, .p (.ptr vs 0)) :: (s.kill id).regs } := by
  obtain ⟨b, us, ty, k1, k2, k3, k4, k5, k6, k7⟩ := (h.boxes id cs hb).cells (isRow_allV hv)
  have hl1 : (us.take cs.length).length = cs.length := by rw [List.length_take]; omega
  obtain ⟨hrl, hsg⟩ := allV_RL (us := us.take cs.length) hv hl1 (fun j d u hd hu => k6 j d u hd (by
    rw [List.getElem?_take] at hu
    split at hu
    · exact hu
    · cases hu))
  have hk := h.know k1 k2 k3 k4 k7.1
  have hsub : Sub M (Go.Evl.know M b us) := ⟨fun a v ha => by
    simp only [Go.Evl.know]
    rw [if_neg]; exact ha
    rintro ⟨e, _⟩
    exact absurd ((k7.1 a e).symm.trans ha) (fun q => nomatch q), fun _ _ _ e => e⟩
  refine ⟨Go.Evl.know M b us, hk.ext, Frames.head (r := (s.kill id).regs) (t := tm) hk.frames (fun j d hj => ?_), hk.boxes, hk.rows, hk.loops, hk.recs, hk.inj, hk.marks⟩
  by_cases e : j = t
  · subst e
    rw [get_cons_same] at hj
    cases hj
    obtain ⟨b', q1, q2⟩ := h.frames.here j _ ht
    rw [k1] at q1; cases q1
    refine R_ptr.2 ⟨⟨b, 0, none⟩, us.take cs.length, by rw [q2, add_plain], RL.sub hsub _ _ hrl, fun i u hi => ?_⟩
    rw [add_plain, know_new]
    refine ⟨?_, hsg u (List.mem_of_getElem? hi)⟩
    rw [List.getElem?_take] at hi
    split at hi
    · exact hi
    · cases hi
  · rw [get_cons_ne _ _ e] at hj
    exact hk.frames.here j d hj

theorem full_weak {ty : Ty} {xs : List ty.D} {u : Value} (h : R M (.sl true ty xs) u) : R M (.sl false ty xs) u := by
  obtain ⟨ao, cap, q1, q2, q3, q4⟩ := R_sl.1 h
  exact R_sl.2 ⟨ao, cap, q1, q2, (fun q => by cases q), q4⟩
theorem row_of_full {k : Option TypeId} {B : Nat} {w : World} {own : Nat → Prop} {ty : Ty} {xs : List ty.D} {u : Value} (hk : k = none ∨ xs = []) (h : R M (.sl true ty xs) u) : ∃ us sz, RL M (xs.map ty.enc) us ∧ RowAt k M B w own u us sz := by
  obtain ⟨ao, cap, k1, k2, k3, k4⟩ := R_sl.1 h
  have k3 := k3 rfl
  subst k3
  rcases k4 with k4 | ⟨ad, sz', us, rfl, k5, k6, k7⟩
  · rw [List.map_eq_nil_iff] at k4
    subst k4
    exact ⟨[], 0, by rw [List.map_nil, RL], ao, 0, k1, .inl ⟨rfl, .inl rfl⟩⟩
  · rcases hk with hk | hk
    · exact ⟨us, sz', k6, some ad, (xs.map ty.enc).length, by rw [k6.length]; exact k1, .inl ⟨k6.length.symm, .inr ⟨ad, rfl, k5, k7, hk⟩⟩⟩
    · subst hk
      have hu : us = [] := List.eq_nil_of_length_eq_zero (by rw [k6.length]; rfl)
      subst hu
      exact ⟨[], sz', k6, some ad, 0, k1, .inl ⟨rfl, .inl rfl⟩⟩
theorem SR.upgradeR {tm : Array Value} (h : SR M0 w0 M G (tm :: ts) w s) (t : Nat) : ∃ M' G', SR M0 w0 M' G' (tm :: ts) w (upgradeR s t) ∧ G'.lp = G.lp ∧ G'.mark = G.mark := by
  unfold Go.Evl.upgradeR
  split
  · rename_i id ht
    split
    · rename_i cs hb
      split
      · rename_i vs hv
        obtain ⟨M', h'⟩ := h.freeze ht hb hv
        exact ⟨M', G, h', rfl, rfl⟩
      · exact ⟨M, G, h, rfl, rfl⟩
    · exact ⟨M, G, h, rfl, rfl⟩
  · rename_i ht
    have hid : kOf (s.num t) = none := kOf_num
    generalize s.num t = id at hid ⊢
    have hu := h.frames.here t _ ht
    rename_i ty xs _
    obtain ⟨us, sz0, hrl, hrow⟩ := row_of_full (M := M) (B := w0.heap.size) (w := w) (own := fun b => G.owner b = some (false, id)) (.inl hid) hu
    let G' : Gh := { G with rows := fun j => if j = id then some ⟨0, tm.getD t undef, us, sz0⟩ else G.rows j }
    have hf : SR M0 w0 M G' (tm :: ts) w (s.kill id) := h.fresh id (Sub.refl M) rfl h.ext (fun j hj => ⟨rfl, if_neg hj⟩) rfl rfl (fun b _ => ⟨rfl, rfl, fun _ _ => rfl⟩)
    have hg := hf.putRow (id := id) (v := 0) ⟨⟨0, tm.getD t undef, us, sz0⟩, if_pos rfl, rfl, hrow⟩
    refine ⟨M, G', ⟨hg.ext, hg.frames.head (fun j d hj => ?_), hg.boxes, hg.rows, hg.loops, hg.recs, hg.inj, hg.marks⟩, rfl, rfl⟩
    by_cases e : j = t
    · subst e
      simp only [get_cons_same, Option.some.injEq] at hj
      subst hj
      refine ⟨?_, fun row hrow => ?_⟩
      · exact full_weak hu
      · have : some (⟨0, tm.getD j undef, us, sz0⟩ : Row) = some row := (if_pos (c := id = id) rfl).symm.trans hrow
        cases this
        exact ⟨Nat.le_refl _, fun _ => ⟨rfl, hrl⟩⟩
    · rw [get_cons_ne _ _ e] at hj
      exact hg.frames.here j d hj
  · exact ⟨M, G, h, rfl, rfl⟩
theorem SR.upgradeB {tm : Array Value} (h : SR M0 w0 M G (tm :: ts) w s) (t j nid : Nat) : ∃ M' G', SR M0 w0 M' G' (tm :: ts) w (upgradeB s t j nid) ∧ G'.lp = G.lp ∧ G'.mark = G.mark := by
  unfold Go.Evl.upgradeB
  split
  · rename_i id ht
    split
    · rename_i cs hb
      split
      · rename_i ty xs hj
        cases hne : (nid == id) || ((nid % 2 == 1) && !xs.isEmpty) with
        | true => exact ⟨M, G, h, rfl, rfl⟩
        | false =>
          rw [Bool.or_eq_false_iff] at hne
          obtain ⟨hne, hodd⟩ := hne
          have hkn : kOf nid = none ∨ xs = [] := by
            cases hq : nid % 2 == 1 with
            | false => exact .inl (by simp [kOf, hq])
            | true => rw [hq] at hodd; exact .inr (by simpa using hodd)
          have hne : nid ≠ id := by simpa using hne
          cases hrow : isRow ((cs.map (D.kill nid)).set j (.own nid 0 ty xs)) || isRow cs with
          | true => exact ⟨M, G, h, rfl, rfl⟩
          | false =>
          rw [Bool.or_eq_false_iff] at hrow
          obtain ⟨hrow1, hrow2⟩ := hrow
          obtain ⟨b, us, t0, k1, k2, k3, k4, k5, k6, k7⟩ := (h.boxes id cs hb).cells hrow2
          have hjl : j < cs.length := (List.getElem?_eq_some_iff.1 hj).1
          have huj : us[j]? = some (us[j]'(by omega)) := List.getElem?_eq_getElem _
          generalize us[j]'(by omega) = u at huj
          obtain ⟨hu, hsg⟩ := k6 j _ u hj huj
          obtain ⟨us0, sz0, hrl, hrow⟩ := row_of_full (M := M) (B := w0.heap.size) (w := w) (own := fun b => G.owner b = some (false, nid)) hkn hu
          let G' : Gh := { G with rows := fun i => if i = nid then some ⟨0, u, us0, sz0⟩ else G.rows i }
          have hf : SR M0 w0 M G' (tm :: ts) w (s.kill nid) := h.fresh nid (Sub.refl M) rfl h.ext (fun i hi => ⟨rfl, if_neg hi⟩) rfl rfl (fun b _ => ⟨rfl, rfl, fun _ _ => rfl⟩)
          have hg := hf.putRow (id := nid) (v := 0) ⟨⟨0, u, us0, sz0⟩, if_pos rfl, rfl, hrow⟩
          refine ⟨M, G', ⟨hg.ext, hg.frames, fun i ds hi => ?_, hg.rows, hg.loops, hg.recs, hg.inj, hg.marks⟩, rfl, rfl⟩
          by_cases e : i = id
          · subst e
            have hi : get (put (s.kill nid).boxes i ((cs.map (D.kill nid)).set j (.own nid 0 ty xs))) i = some ds := hi
            rw [get_put_same] at hi
            cases hi
            have hbk : get (s.kill nid).boxes i = some (cs.map (D.kill nid)) := by
              show get (del (mapV (List.map (D.kill nid)) s.boxes) nid) i = _
              rw [get_del, get_mapV, hb]
              have : (nid == i) = false := by simpa using hne
              rw [this]; rfl
            obtain ⟨b', us', t1, r1, r2, r3, r4, r5, r6, r7⟩ := (hf.boxes i _ hbk).cells (by rw [(fixes_kill nid).isRow]; exact hrow2)
            rw [k1] at r1; cases r1
            rw [k4] at r4; cases r4
            refine Box0.ok ⟨b, us, t0, k1, r2, r3, k4, by simpa using k5, fun p d v hd hv => ?_, r7⟩ hrow1
            by_cases ep : p = j
            · subst ep
              rw [List.getElem?_set_self (by simpa using hjl)] at hd
              cases hd
              rw [huj] at hv; cases hv
              refine ⟨⟨full_weak hu, fun row hrow => ?_⟩, hsg⟩
              have : some (⟨0, u, us0, sz0⟩ : Row) = some row := (if_pos (c := nid = nid) rfl).symm.trans hrow
              cases this
              exact ⟨Nat.le_refl _, fun _ => ⟨rfl, hrl⟩⟩
            · rw [List.getElem?_set_ne (Ne.symm ep)] at hd
              exact r6 p d v hd (by simpa using hv)
          · have hi : get (put (s.kill nid).boxes id ((cs.map (D.kill nid)).set j (.own nid 0 ty xs))) i = some ds := hi
            rw [get_put_ne _ _ e] at hi
            exact hf.boxes i ds hi
      · exact ⟨M, G, h, rfl, rfl⟩
    · exact ⟨M, G, h, rfl, rfl⟩
  · exact ⟨M, G, h, rfl, rfl⟩
theorem SR.upgrade1 {tm : Array Value} (h : SR M0 w0 M G (tm :: ts) w s) (t : Nat) : ∃ M' G', SR M0 w0 M' G' (tm :: ts) w (upgrade1 s t) ∧ G'.lp = G.lp ∧ G'.mark = G.mark := by
  unfold Go.Evl.upgrade1
  cases Nat.blt t 1000000 with
  | true => exact h.upgradeR t
  | false =>
    cases Nat.blt t 1000000000000 with
    | true => exact h.upgradeB _ _ _
    | false => exact h.upgradeB _ _ _
theorem SR.upgrade {tm : Array Value} : ∀ (us : List Nat) {M : Mem} {G : Gh} {s : St}, SR M0 w0 M G (tm :: ts) w s → ∃ M' G', SR M0 w0 M' G' (tm :: ts) w (upgrade us s) ∧ G'.lp = G.lp ∧ G'.mark = G.mark
  | [], M, G, s, h => ⟨M, G, h, rfl, rfl⟩
  | t :: us, M, G, s, h => by
    obtain ⟨M', G', h', e1, e2⟩ := h.upgrade1 t
    obtain ⟨M2, G2, h2, e3, e4⟩ := SR.upgrade us h'
    exact ⟨M2, G2, h2, e3.trans e1, e4.trans e2⟩
end

end Go.Evl
