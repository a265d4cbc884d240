/-
  A value semantics for the program's code, part 20: whole calls.
  Conditions: none; this text holds definitions and lemmas of their own.
-/
import Derived.Test.YtbcihiehcekheaaDoorEv19
namespace Go.Evl
open Go Go.RowKit
set_option linter.unusedVariables false
set_option linter.unusedSimpArgs false

section
variable {P : Program}
variable {M0 : Mem} {w0 : World} {N : Nat} {M : Mem} {G : Gh} {t : Array Value} {ts : List (Array Value)} {w : World} {s : St}

def one1 (tmps : Array Value) : ResultVar → Sem Value
  | .tmp t => pure (tmps.getD t undef)
  | .cell a t => do loadVar t (← asAddr (tmps.getD a undef))

theorem SR.reads' (h : SR M0 w0 M G (t :: ts) w s) (j : Nat) : RD M G (rdA s.regs (.t j)) (t.getD j undef) := by
  simp only [rdA]
  cases hg : get s.regs j with
  | none => trivial
  | some d => exact h.frames.here j d hg

theorem one_run (h : SR M0 w0 M G (t :: ts) w s) {r : ResultVar} {r' : RV} {d : D} (hok : okRV P [r] [r'] = true) (hd : resD s r' = some d) : ∃ u, (one1 t r).run P w = .ok u w ∧ RD M G d u := by
  cases r with
  | tmp j =>
    cases r' with
    | tmp j' =>
      simp only [okRV, Bool.and_eq_true, beq_iff_eq] at hok
      obtain ⟨rfl, _⟩ := hok
      exact ⟨_, rfl, h.frames.here j d hd⟩
    | cell t' sz ag => simp [okRV] at hok
  | cell j ty =>
    cases r' with
    | tmp t' => simp [okRV] at hok
    | cell j' sz ag =>
      simp only [okRV, Bool.and_eq_true, beq_iff_eq] at hok
      obtain ⟨⟨⟨rfl, h1⟩, h2⟩, _⟩ := hok
      simp only [resD] at hd
      split at hd
      · cases hd
      rename_i hnm
      simp only [ev0] at hd
      split at hd
      · rename_i cs off hx
        obtain ⟨x, hp, rfl⟩ := pv_some hd
        have hr := h.reads' j
        rw [hx] at hr
        have hr : R M (.ptr cs off) _ := hr
        rw [R] at hr
        obtain ⟨ad, us, hu, hrl, hl⟩ := hr
        obtain ⟨u, hrun, hru⟩ := load_run (P := P) h1 h2 hrl (fun j u hj => ⟨h.ext.ok.cell _ _ (hl j u hj).1, (hl j u hj).2⟩) hp
        exact ⟨u, by simp [one1, hu, asAddr, hrun], hru⟩
      · rename_i id off hx
        split at hd
        · rename_i cs hb
          have hr := h.reads' j
          rw [hx] at hr
          obtain ⟨b, hblk, hu⟩ := hr
          cases hrow : isRow cs with
          | true => rw [hrow] at hd; cases hd
          | false =>
          rw [hrow] at hd
          obtain ⟨b', us, ty', k1, k2, k3, k4, k5, k6, k7⟩ := (h.boxes id cs hb).cells hrow
          rw [hblk] at k1; cases k1
          obtain ⟨u, hrun, hru⟩ := loadD_run (P := P) h1 h2 k4 k5 k6 hd
          exact ⟨u, by simp [one1, hu, asAddr, hrun], hru⟩
        · cases hd
      · rename_i hx
        exact absurd hx (hnm _ _ _ _)
      · cases hd

theorem all_run (h : SR M0 w0 M G (t :: ts) w s) : ∀ {rs : List ResultVar} {rs' : List RV} {ds : List D}, okRV P rs rs' = true → resDs s rs' = some ds → ∃ us, (rs.mapM (one1 t)).run P w = .ok us w ∧ DL M G ds us
  | [], [], ds, _, hv => by
    simp only [resDs, Option.some.injEq] at hv
    subst hv
    exact ⟨[], rfl, rfl, fun i d u hd _ => by simp at hd⟩
  | r :: rs, r' :: rs', ds, hok, hv => by
    have hok1 : okRV P [r] [r'] = true ∧ okRV P rs rs' = true := by
      cases r <;> cases r' <;> simp [okRV] at hok ⊢ <;> simp [hok]
    simp only [resDs] at hv
    split at hv
    · rename_i d hd
      split at hv
      · rename_i ds' hds
        cases hv
        obtain ⟨u, h1, h2⟩ := one_run h hok1.1 hd
        obtain ⟨us, h3, h4⟩ := all_run h hok1.2 hds
        refine ⟨u :: us, by simp [List.mapM_cons, h1, h3], by simp [h4.1], fun i d' u' hd' hu' => ?_⟩
        cases i with
        | zero => simp at hd' hu'; subst hd'; subst hu'; exact h2
        | succ i => exact h4.2 i d' u' (by simpa using hd') (by simpa using hu')
      · cases hv
    · cases hv
  | [], _ :: _, _, hok, _ => by simp [okRV] at hok
  | _ :: _, [], _, hok, _ => by cases ‹ResultVar› <;> simp [okRV] at hok

theorem allV_DL {ds : List D} {vs : List V} {us : List Value} (hv : allV ds = some vs) (h : DL M G ds us) : RL M vs us := by
  induction ds generalizing vs us with
  | nil =>
    simp [allV] at hv; subst hv
    have : us = [] := List.eq_nil_of_length_eq_zero h.1
    subst this
    rw [RL]
  | cons d ds ih =>
    cases us with
    | nil => simp [DL] at h
    | cons u us =>
      simp only [allV] at hv
      split at hv
      · cases hv
      · rename_i v hx
        split at hv
        · rename_i vs' hxs
          cases hv
          rw [RL]
          exact ⟨u, us, rfl, (h.2 0 d u rfl rfl).toV hx, ih hxs h.tail⟩
        · cases hv

theorem result_tup {ds : List D} {vs : List V} {us : List Value} (hl : us.length ≠ 1) (hv : allV ds = some vs) (h : DL M G ds us) : RD M G (.p (.tup vs)) (if h : us.toArray.size = 1 then us.toArray[0] else .tuple us.toArray) := by
  rw [dif_neg (by simpa using hl)]
  show R M (.tup vs) _
  rw [R]
  exact ⟨us, rfl, allV_DL hv h⟩
theorem result_RD {ds : List D} {d : D} {us : List Value} (hr : result ds = some d) (h : DL M G ds us) : RD M G d (if h : us.toArray.size = 1 then us.toArray[0] else .tuple us.toArray) := by
  cases ds with
  | nil =>
    have hu : us = [] := List.eq_nil_of_length_eq_zero h.1
    simp only [result, allV, Option.some.injEq] at hr
    subst hr
    exact result_tup (by rw [hu]; simp) rfl h
  | cons d1 ds =>
    cases ds with
    | nil =>
      simp only [result, Option.some.injEq] at hr
      subst hr
      match us, h with
      | [], h => simp [DL] at h
      | [u], h => exact h.2 0 _ u rfl rfl
      | u :: u2 :: us, h => simp [DL] at h
    | cons d2 ds =>
      have hl := h.1
      simp only [List.length_cons] at hl
      simp only [result] at hr
      split at hr
      · rename_i vs hvs
        cases hr
        exact result_tup (by omega) hvs h
      · cases hr

theorem results_run (h : SR M0 w0 M G (t :: ts) w s) {fn : Func} {rs : List RV} {ds : List D} {d : D} (hok : okRV P fn.results.toList rs = true) (hr : resDs s rs = some ds) (hd : result ds = some d) : ∃ v, (results fn t).run P w = .ok v w ∧ RD M G d v := by
  obtain ⟨us, h1, h2⟩ := all_run h hok hr
  have hrun : (results fn t).run P w = .ok (if h : us.toArray.size = 1 then us.toArray[0] else .tuple us.toArray) w := by
    have e : (fn.results.mapM (one1 t)).run P w = .ok us.toArray w := by
      rw [Array.mapM_eq_mapM_toList]
      simp [h1]
    have e2 : results fn t = (do let vs ← fn.results.mapM (one1 t); pure (if h : vs.size = 1 then vs[0] else .tuple vs)) := by
      unfold results
      congr 1
    rw [e2, Sem.run_bind, e]
    rfl
  exact ⟨_, hrun, result_RD hd h2⟩

/-- A mark is taken. -/
theorem SR.takeMark (h : SR M0 w0 M G (t :: ts) w s) {b k : Nat} (hb : G.mark b = some k) : SR M0 w0 M { G with mark := fun x => if x = b then none else G.mark x } (t :: ts) (w.putObj b (.deferred none)) s := by
  obtain ⟨q1, q2⟩ := h.marks.1 b k hb
  have hoth : ∀ (c : Nat) (o : Obj), w.heap[c]? = some o → o ≠ .deferred (some []) → (w.putObj b (.deferred none)).heap[c]? = w.heap[c]? := by
    intro c o hc hne
    refine World.putObj_heap_other ?_
    rintro rfl
    rw [q2] at hc; cases hc
    exact hne rfl
  refine ⟨ExtS.make h.ext.tab h.ext.same (fun a v hv => ?_) (fun a v hv => by rw [World.putObj_size]; exact h.ext.ok.old a v hv) (h.ext.below.trans ⟨rfl, rfl, rfl, by rw [World.putObj_size]; exact Nat.le_refl _, fun k hk => World.putObj_heap_other (by omega)⟩) h.ext.refs (fun a k b c e => by rw [World.putObj_size]; exact h.ext.ok.oldR a k b c e),
    h.frames.imp (fun d u hd => hd.lpMore rfl rfl (fun _ _ q => q)), fun id cs hc => ?_, fun id v hv => ?_, fun lvl ps hl => ?_, h.recs, h.inj, fun c j hc => ?_, h.marks.2.still (Sub.refl M) rfl (fun c es cl e => (World.putObj_heap_other (by rintro rfl; rw [q2] at e; cases e)).trans e)⟩
  · have hc := h.ext.ok.cell a v hv
    rw [cell_putObj]; exact hc
    rintro rfl
    simp [World.cell?, q2] at hc
  · exact (h.boxes id cs hc).upd' (Sub.refl M) rfl (fun c ho hlt ⟨xs, t, fr, hcs⟩ => ⟨hoth c _ hcs (by simp), rfl, fun _ _ => rfl⟩) (fun d u hu => hu.lpMore rfl rfl (fun _ _ q => q))
  · obtain ⟨row, h1, h2, h3⟩ := h.rows id v hv
    exact ⟨row, h1, h2, h3.upd' (Sub.refl M) (fun c ho hlt ⟨xs, t, fr, hcs⟩ => ⟨hoth c _ hcs (by simp), ho, fun _ _ => rfl⟩)⟩
  · obtain ⟨l, r, h', e1, e2⟩ := h.loops lvl ps hl
    exact ⟨l, r, h', e1, (hoth l _ e2 (by simp)).trans e2⟩
  · by_cases e : c = b
    · have : (none : Option Nat) = some j := (if_pos e).symm.trans hc
      cases this
    · obtain ⟨q3, q4⟩ := h.marks.1 c j ((if_neg e).symm.trans hc)
      exact ⟨q3, (World.putObj_heap_other e).trans q4⟩

theorem leaves_marks {F : Fence} {n : Nat} {fn : Func} {R' : Ending → World → Prop} {hc : Nat} : ∀ (bs : List Nat) (G : Gh) (w : World), bs.Nodup → (∀ b ∈ bs, ∃ k, hc < k ∧ G.mark b = some k) → SR M0 w0 M G (t :: ts) w s →
    (∀ G' w', SR M0 w0 M G' (t :: ts) w' s → Gstep hc G G' → (∀ d u, RD M G d u → RD M G' d u) → ∃ v, (results fn t).run P w' = .ok v w' ∧ R' (.returned v) w') → LeavesInM F n P fn t R' (bs.map markOf) .returning w
  | [], G, w, _, _, h, hK => hK G w h (Gstep.refl _ _) (fun _ _ q => q)
  | b :: bs, G, w, hn, hm, h, hK => by
    obtain ⟨k, hk, hb⟩ := hm b (by simp)
    have hn' := List.nodup_cons.1 hn
    refine ⟨by simp, .inl ⟨b, _, rfl, run_takeDeferred (h.marks.1 b k hb).2, ?_⟩⟩
    refine leaves_marks bs _ _ hn'.2 (fun c hcb => ?_) (h.takeMark hb) (fun G' w' h' g f => hK G' w' h' (Gstep.trans (G' := { G with mark := fun x => if x = b then none else G.mark x }) ⟨rfl, fun x j hx hj => ?_⟩ g) (fun d u q => f d u (q.lpMore rfl rfl (fun _ _ q => q))))
    · obtain ⟨k', hk', hb'⟩ := hm c (by simp [hcb])
      refine ⟨k', hk', ?_⟩
      show (if c = b then none else G.mark c) = some k'
      rw [if_neg]; exact hb'
      rintro rfl
      exact hn'.1 hcb
    · show (if x = b then none else G.mark x) = some j
      rw [if_neg]; exact hx
      rintro rfl
      rw [hb] at hx; cases hx; omega

theorem get_start : ∀ {ds : List D} {us : List Value} (n : Nat), DL M G ds us → ∀ {t : Nat} {d : D}, get (start n ds) t = some d → ∃ i u, t = n + i ∧ us[i]? = some u ∧ RD M G d u
  | [], us, n, h, t, d, ht => by simp [start, get] at ht
  | x :: xs, [], n, h, t, d, ht => by simp [DL] at h
  | x :: xs, u :: us, n, h, t, d, ht => by
    simp only [start] at ht
    by_cases e : t = n
    · subst e
      rw [get_cons_same] at ht
      cases ht
      exact ⟨0, u, rfl, rfl, h.2 0 _ u rfl rfl⟩
    · rw [get_cons_ne _ _ e] at ht
      obtain ⟨i, u', h3, h5, h6⟩ := get_start (n + 1) h.tail ht
      exact ⟨i + 1, u', by omega, h5, h6⟩

theorem body_sound (hmix : P.follows .mixedOrders = true) {cf : FuncId → List V → Option V} {run : Env → FuncId → List D → St → Option (D × St)} (hcf : CfOk P cf) (hrun : RunOk P M0 w0 run) {f : FuncId} {g : Func} {fn : Fn} {k : Nat} (hg : P.funcs[f]? = some g) (hok : okFn P g fn = true)
    {env : Env} {ρ : Nat → Option (Nat × Loop × Nat)} (henv : EnvOk P M0 w0 env ρ) {ds : List D} {s s' : St} {d : D} (hlen : ds.length = fn.params)
    (he : (match evC ⟨std, cf, run⟩ fn.keep fn.up k fn.code env { s with regs := start 0 ds, stk := s.regs :: s.stk } with
      | some (.normal, s') => leave fn.results s'
      | some (.ret, s') => leave fn.results s'
      | _ => none) = some (d, s')) :
    There P f ∧ ∀ M G ts w us, (∀ j q, ρ j = some q → G.lp j = some q) → SR M0 w0 M G ts w s → DL M G ds us → Calls P f us.toArray w fun e w' => ∃ v M' G', e = .returned v ∧ RD M' G' d v ∧ Gstep s.stk.length G G' ∧ SR M0 w0 M' G' ts w' s' := by
  unfold okFn at hok
  simp only [Bool.and_eq_true, Bool.not_eq_true', Nat.ble_eq] at hok
  obtain ⟨⟨⟨h1, h2⟩, h3⟩, h4⟩ := hok
  split at h1
  · rename_i c hc
    refine ⟨⟨g, hg, by rw [hc]; rfl, h4⟩, fun M G ts w us hρ h hd => ?_⟩
    obtain ⟨t0, ts0, rfl⟩ : ∃ t0 ts0, ts = t0 :: ts0 := by
      cases ts with
      | nil => have := h.frames.1; simp at this
      | cons t0 ts0 => exact ⟨t0, ts0, rfl⟩
    have hh := h.height
    have hul := hd.1
    have hnew := h.push (t := us.toArray ++ Array.replicate (g.ntmps - us.toArray.size) undef) (r := start 0 ds) (fun j d hj => by
      obtain ⟨i, u, h5, h6, h7⟩ := get_start 0 hd hj
      have hi : i < us.length := (List.getElem?_eq_some_iff.1 h6).1
      have : j = i := by omega
      subst this
      have e : (us.toArray ++ Array.replicate (g.ntmps - us.toArray.size) undef).getD j undef = u := by
        rw [Array.getD_eq_getD_getElem?, Array.getElem?_append_left (by simpa using hi)]
        simp [h6]
      rw [e]; exact h7)
    refine (callsIn_wide (n := 0)).1 (callsIn_of_wp_marks hg hc trivial ?_)
    have fin : ∀ (sx : St) (M' : Mem) (G' : Gh) (a' : Act) (w' : World), SR M0 w0 M' G' (a'.tmps :: t0 :: ts0) w' sx → Marks (t0 :: ts0).length G' a'.defers → Gstep (t0 :: ts0).length G G' → leave fn.results sx = some (d, s') →
        LeavesInM Fence.wide 0 P g a'.tmps (fun e w' => ∃ v M' G', e = .returned v ∧ RD M' G' d v ∧ Gstep s.stk.length G G' ∧ SR M0 w0 M' G' (t0 :: ts0) w' s') a'.defers .returning w' := by
      intro sx M' G' a' w' hs hm hst hle
      unfold leave at hle
      split at hle
      · rename_i dsr rr stt hres hstk
        split at hle
        · rename_i dr hdr
          simp only [Option.some.injEq, Prod.mk.injEq] at hle
          obtain ⟨rfl, rfl⟩ := hle
          obtain ⟨bs, e1, e2, e3⟩ := hm
          rw [e1]
          refine leaves_marks (hc := s.stk.length) bs G' w' e2 (fun b hb => ⟨_, by simp; omega, e3 b hb⟩) hs (fun G2 w2 h' g2 _ => ?_)
          obtain ⟨v, hv, hR⟩ := results_run (P := P) h' h2 hres hdr
          refine ⟨v, hv, v, M', G2, rfl, hR, (hst.le (by simp; omega)).trans g2, h'.pop hstk ((h.lower.step hst).step g2)⟩
        · cases hle
      · cases hle
    split at he
    · rename_i sx hs
      exact evC_sound hcf hrun hmix c fn.code h1 env ρ Fence.wide 0 _ _ sx .normal M G { tmps := us.toArray ++ Array.replicate (g.ntmps - us.toArray.size) undef, defers := [] } _ w henv hρ (.inl rfl) h.lower (by simp; omega) (Marks.nil _ _) hnew hs
        (fun M' G' a' w' k1 k2 k3 k4 => fin sx M' G' a' w' k1 k3 k4 he)
    · rename_i sx hs
      exact evC_sound hcf hrun hmix c fn.code h1 env ρ Fence.wide 0 _ _ sx .ret M G { tmps := us.toArray ++ Array.replicate (g.ntmps - us.toArray.size) undef, defers := [] } _ w henv hρ (.inl rfl) h.lower (by simp; omega) (Marks.nil _ _) hnew hs
        (fun M' G' a' w' k1 k2 k3 k4 => fin sx M' G' a' w' k1 k3 k4 he)
    · cases he
  · cases h1
end

/-- Calls that may turn the state are sound. -/
theorem runF_sound {P : Program} (hmix : P.follows .mixedOrders = true) {tab : FuncId → Option Fn} {cf : FuncId → List V → Option V} {k : Nat} (htab : ∀ f fn, tab f = some fn → ∃ g, P.funcs[f]? = some g ∧ okFn P g fn = true) (hcf : CfOk P cf) :
    ∀ n M0 w0, RunOk P M0 w0 (runF tab cf k n)
  | 0 => fun M0 w0 env ρ f ds s d s' _ h => by simp [runF] at h
  | n + 1 => by
    have ih := runF_sound (k := k) hmix htab hcf n
    intro M0 w0 env ρ f ds s d s' henv h
    simp only [runF] at h
    split at h
    · rename_i fn hfn
      obtain ⟨g, hg, hok⟩ := htab f fn hfn
      obtain ⟨hlen, h⟩ := cond_some h
      have hlen : ds.length = fn.params := by simpa using hlen
      exact body_sound hmix hcf (ih _ _) hg hok henv hlen h
    · cases h

/-! ### What holds no references stands for its content whatever the references are -/
theorem laid_cells {M M' : Mem} (hc : M'.cells = M.cells) {ad : Addr} {sz : Nat} {us : List Value} (h : Laid M ad sz us) : Laid M' ad sz us := fun i u hu => by
  obtain ⟨h1, h2, h3⟩ := h i u hu
  exact ⟨h1, h2, fun j hj => by rw [hc]; exact h3 j hj⟩
mutual
theorem RT.nref {M M' : Mem} (hc : M'.cells = M.cells) : ∀ (t : Ty) (x : t.D) (v : Value), t.nr = true → RT M t x v → RT M' t x v
  | .int _, _, _, _, h => h
  | .bool, _, _, _, h => h
  | .str, _, _, _, h => h
  | .agg ts, d, v, hn, h => by
    obtain ⟨us, e, hr, h1⟩ := RT_agg.1 h
    exact RT_agg.2 ⟨us, e, RTs.nref hc ts d us hn hr, h1⟩
  | .tup ts, d, v, hn, h => by
    obtain ⟨us, e, hr⟩ := RT_tup.1 h
    exact RT_tup.2 ⟨us, e, RTs.nref hc ts d us hn hr⟩
  | .sl t, xs, v, hn, h => by
    obtain ⟨a, cap, e, h1, h3⟩ := RT_sl.1 h
    refine RT_sl.2 ⟨a, cap, e, h1, ?_⟩
    rcases h3 with h3 | ⟨ad, sz, us, ha, hz, hr, hl⟩
    · exact .inl h3
    · exact .inr ⟨ad, sz, us, ha, hz, ⟨hr.1, fun i x u hx hu => RT.nref hc t x u hn (hr.2 i x u hx hu)⟩, laid_cells hc hl⟩
  | .ptr ts off, d, v, hn, h => by
    obtain ⟨ad, us, e, hr, hl⟩ := RT_ptr.1 h
    exact RT_ptr.2 ⟨ad, us, e, RTs.nref hc ts d us hn hr, fun j u hu => ⟨by rw [hc]; exact (hl j u hu).1, (hl j u hu).2⟩⟩
  | .clo f ts, d, v, hn, h => by
    obtain ⟨us, e, hr⟩ := RT_clo.1 h
    exact RT_clo.2 ⟨us, e, RTs.nref hc ts d us hn hr⟩
  | .lit _, _, _, _, h => h
  | .ref _, _, _, hn, _ => nomatch hn
theorem RTs.nref {M M' : Mem} (hc : M'.cells = M.cells) : ∀ (ts : Tys) (d : ts.D) (us : List Value), ts.nr = true → RTs M ts d us → RTs M' ts d us
  | .nil, _, _, _, h => h
  | .cons t ts, d, us, hn, h => by
    obtain ⟨u, us', e, h1, h2⟩ := RTs_cons.1 h
    have hn' : (t.nr && ts.nr) = true := hn
    rw [Bool.and_eq_true] at hn'
    exact RTs_cons.2 ⟨u, us', e, RT.nref hc t _ u hn'.1 h1, RTs.nref hc ts _ us' hn'.2 h2⟩
end
mutual
theorem R.nref {M M' : Mem} (hc : M'.cells = M.cells) : ∀ (x : V) (v : Value), x.ty.nr = true → R M x v → R M' x v
  | .int _ _, _, _, h => R_int_iff.2 (R_int_iff.1 h)
  | .bool _, _, _, h => R_bool_iff.2 (R_bool_iff.1 h)
  | .str _, _, _, h => R_str_iff.2 (R_str_iff.1 h)
  | .agg cs, v, hn, h => by
    obtain ⟨us, e, hr, h1⟩ := R_agg.1 h
    exact R_agg.2 ⟨us, e, RL.nref hc cs us hn hr, h1⟩
  | .tup vs, v, hn, h => by
    obtain ⟨us, e, hr⟩ := R_tup.1 h
    exact R_tup.2 ⟨us, e, RL.nref hc vs us hn hr⟩
  | .sl full t xs, v, hn, h => R_sl0.2 ⟨RT.nref hc (.sl t) xs v hn (R_sl0.1 h).1, (R_sl0.1 h).2⟩
  | .ptr cs off, v, hn, h => by
    obtain ⟨ad, us, e, hr, hl⟩ := R_ptr.1 h
    exact R_ptr.2 ⟨ad, us, e, RL.nref hc cs us hn hr, fun j u hu => ⟨by rw [hc]; exact (hl j u hu).1, (hl j u hu).2⟩⟩
  | .clo f caps, v, hn, h => by
    obtain ⟨us, e, hr⟩ := R_clo.1 h
    exact R_clo.2 ⟨us, e, RL.nref hc caps us hn hr⟩
  | .lit _, _, _, h => R_lit.2 (R_lit.1 h)
  | .ref _ _ _ _, _, hn, _ => nomatch hn
theorem RL.nref {M M' : Mem} (hc : M'.cells = M.cells) : ∀ (xs : List V) (us : List Value), (tysL xs).nr = true → RL M xs us → RL M' xs us
  | [], _, _, h => RL_nil.2 (RL_nil.1 h)
  | x :: xs, us, hn, h => by
    obtain ⟨u, us', e, h1, h2⟩ := RL_cons.1 h
    have hn' : (x.ty.nr && (tysL xs).nr) = true := hn
    rw [Bool.and_eq_true] at hn'
    exact RL_cons.2 ⟨u, us', e, R.nref hc x u hn'.1 h1, RL.nref hc xs us' hn'.2 h2⟩
end
theorem ars0_nil : ∀ {l : List (Nat × Ty × Ty)} {a : Nat} {tk tv : Ty} {xs : List (List (tk.D × tv.D × Unit))}, get (ars0 l) a = some (.mp tk tv xs) → xs = []
  | [], _, _, _, _, h => by simp [ars0, get] at h
  | (a', tk', tv') :: r, a, tk, tv, xs, h => by
    have h : (bif a' == a then some (.mp tk' tv' []) else get (ars0 r) a) = some (.mp tk tv xs) := h
    cases hj : a' == a with
    | true =>
      rw [hj] at h
      cases h
      rfl
    | false =>
      rw [hj] at h
      exact ars0_nil h
/-- THE WHOLE: what the small evaluation says of a call is so. -/
theorem callF_sound {P : Program} (hmix : P.follows .mixedOrders = true) {tab : FuncId → Option Fn} {cf : FuncId → List V → Option V} {k n : Nat} (htab : ∀ f fn, tab f = some fn → ∃ g, P.funcs[f]? = some g ∧ okFn P g fn = true) (hcf : CfOk P cf)
    {f : FuncId} {xs : List V} {r : V} (h : callF tab cf k n f xs = some r) : Sound P f xs r := by
  have ih2 := runF_sound (k := k) hmix htab hcf n
  simp only [callF] at h
  split at h
  · rename_i fn hfn
    obtain ⟨g, hg, hok⟩ := htab f fn hfn
    obtain ⟨hlen, h⟩ := cond_some h
    rw [Bool.and_eq_true] at hlen
    have hnr := hlen.2
    have hlen : (xs.map D.p).length = fn.params := by simpa using hlen.1
    have key : ∃ d sx, (match evC ⟨std, cf, runF tab cf k n⟩ fn.keep fn.up k fn.code env0 { { st0 with ars := ars0 fn.ars } with regs := start 0 (xs.map D.p), stk := ({ st0 with ars := ars0 fn.ars } : St).regs :: ({ st0 with ars := ars0 fn.ars } : St).stk } with
        | some (.normal, s') => leave fn.results s'
        | some (.ret, s') => leave fn.results s'
        | _ => none) = some (d, sx) ∧ (d.toV = some r ∧ r.ty.nr = true) := by
      have fin : ∀ p : D × St, fst? (some p) = some r → p.1.toV = some r ∧ r.ty.nr = true := fun p hp => by
        simp only [fst?] at hp
        cases hv : p.1.toV with
        | none => rw [hv] at hp; cases hp
        | some v =>
          rw [hv] at hp
          obtain ⟨h1, h2⟩ := cond_some hp
          cases h2
          exact ⟨rfl, h1⟩
      have h' : (match evC ⟨std, cf, runF tab cf k n⟩ fn.keep fn.up k fn.code env0 { { st0 with ars := ars0 fn.ars } with regs := start 0 (xs.map D.p), stk := ({ st0 with ars := ars0 fn.ars } : St).regs :: ({ st0 with ars := ars0 fn.ars } : St).stk } with
        | some (.normal, s') => fst? (leave fn.results s')
        | some (.ret, s') => fst? (leave fn.results s')
        | _ => none) = some r := h
      generalize evC ⟨std, cf, runF tab cf k n⟩ fn.keep fn.up k fn.code env0 { { st0 with ars := ars0 fn.ars } with regs := start 0 (xs.map D.p), stk := ({ st0 with ars := ars0 fn.ars } : St).regs :: ({ st0 with ars := ars0 fn.ars } : St).stk } = q at h' ⊢
      split at h'
      · rename_i sx
        cases hl : leave fn.results sx with
        | none => rw [hl] at h'; simp [fst?] at h'
        | some p => rw [hl] at h'; exact ⟨p.1, p.2, rfl, fin p h'⟩
      · rename_i sx
        cases hl : leave fn.results sx with
        | none => rw [hl] at h'; simp [fst?] at h'
        | some p => rw [hl] at h'; exact ⟨p.1, p.2, rfl, fin p h'⟩
      · cases h'
    obtain ⟨d, sx, hk, hd⟩ := key
    refine ⟨?_, fun M w us hm hus => ?_⟩
    · exact (body_sound (M0 := ⟨fun _ => none, fun _ _ => none⟩) (w0 := default) hmix hcf (ih2 _ _) hg hok (ρ := fun _ => none) (fun lvl ds s d s' q => by simp [env0] at q) hlen hk).1
    · have hm1 : Ok { M with refs := fun _ _ => none } w := ⟨⟨hm.cell, hm.old, fun a k b c e => nomatch e⟩, hm.laid⟩
      have hus1 : RL { M with refs := fun _ _ => none } xs us := RL.nref (M := M) (M' := { M with refs := fun _ _ => none }) rfl xs us hnr hus
      let G : Gh := { blk := fun _ => none, rows := fun _ => none, owner := fun _ => none, lp := fun _ => none, mark := fun _ => none }
      have hstart : SR { M with refs := fun _ _ => none } w { M with refs := fun _ _ => none } G [#[]] w { st0 with ars := ars0 fn.ars } := by
        refine ⟨ExtS.refl hm1, ⟨rfl, fun i regs tmps hr ht t d hd => ?_⟩, fun id cs hb => by simp [st0, get] at hb, fun id v hb => by simp [st0, get] at hb, fun lvl ps hb => by simp [st0, get] at hb, fun lvl l r h' hb => by simp [G] at hb, fun _ _ _ _ _ _ _ hb => by simp [G] at hb, fun b k' hb => by simp [G] at hb, ⟨fun a tk tv xs ha k es hes => (by rw [ars0_nil ha] at hes; simp at hes), (fun a k x hx => nomatch hx), (fun a a' k k' b c c' hx => nomatch hx)⟩⟩
        cases i with
        | zero => simp [st0] at hr; subst hr; simp [get] at hd
        | succ i => simp [st0] at hr
      refine ((body_sound (M0 := { M with refs := fun _ _ => none }) (w0 := w) hmix hcf (ih2 _ _) hg hok (ρ := fun _ => none) (fun lvl ds s d s' q => by simp [env0] at q) hlen hk).2 { M with refs := fun _ _ => none } G [#[]] w us (fun j q hq => by cases hq) hstart (DL.ofRL hus1)).mono ?_
      rintro e w' ⟨v, M', G', rfl, hR, _, hSR⟩
      have he := hSR.ext
      exact ⟨v, { M' with refs := M.refs }, rfl, R.nref (M := M') (M' := { M' with refs := M.refs }) rfl r v hd.2 (hR.toV hd.1), ⟨he.same, fun _ _ _ e => e, ⟨⟨he.ok.cell, he.ok.old, fun a k b c e => Nat.lt_of_lt_of_le (hm.oldR a k b c e) he.below.size⟩, he.ok.laid⟩, he.below, he.tab⟩, rfl⟩
  · cases h

end Go.Evl
