/-
  A value semantics for the program's code, part 19: the whole of a code.
  Conditions: none; this text holds definitions and lemmas of their own.
-/
import Derived.Test.YtbcihiehcekheaaDoorEv18
namespace Go.Evl
open Go Go.RowKit
set_option linter.unusedVariables false
set_option linter.unusedSimpArgs false

section
variable {P : Program} {cf : FuncId → List V → Option V} {run : Env → FuncId → List D → St → Option (D × St)}
variable {M0 : Mem} {w0 : World} {N : Nat}

theorem seqOf_ok {M : Mem} {G : Gh} {d : D} {u : Value} {f : FuncId} {caps : List D} (h : RD M G d u) (hs : seqOf d = some (f, caps)) : ∃ us, u = .func (.func f) #[] us.toArray ∧ DL M G caps us := by
  cases d with
  | p v =>
    cases v with
    | clo g cs =>
      simp only [seqOf, Option.some.injEq, Prod.mk.injEq] at hs
      obtain ⟨rfl, rfl⟩ := hs
      have h : R M (.clo g cs) u := h
      rw [R] at h
      obtain ⟨us, e, hus⟩ := h
      exact ⟨us, e, DL.ofRL hus⟩
    | _ => simp [seqOf] at hs
  | mclo g cs =>
    simp only [seqOf, Option.some.injEq, Prod.mk.injEq] at hs
    obtain ⟨rfl, rfl⟩ := hs
    obtain ⟨us, e, hus⟩ := h
    exact ⟨us, e, DL.ofRC hus⟩
  | _ => simp [seqOf] at hs

theorem evC_sound (hcf : CfOk P cf) (hrun : RunOk P M0 w0 run) (hmix : P.follows .mixedOrders = true) {keep up : List Nat} {k : Nat} : ∀ (c : Code) (c' : C), okC P N c c' = true → CodeOk P M0 w0 N c (evC ⟨std, cf, run⟩ keep up k c')
  | .skip, .skip, _ => by
    intro env ρ F n Q s s' e M G a ts w henv hρ hF hl hN hm h he hQ
    simp only [evC, Option.some.injEq, Prod.mk.injEq] at he
    obtain ⟨rfl, rfl⟩ := he
    exact wpIn_skip (hQ M G a w h hN hm (Gstep.refl _ _))
  | .region id ops draw, .reg is, hok => by
    intro env ρ F n Q s s' e M G a ts w henv hρ hF hl hN hm h he hQ
    simp only [okC, Bool.and_eq_true, Bool.not_eq_true'] at hok
    obtain ⟨rfl, h1⟩ := hok
    simp only [evC] at he
    split at he
    · rename_i sf hst
      simp only [Option.some.injEq, Prod.mk.injEq] at he
      obtain ⟨rfl, rfl⟩ := he
      exact wpIn_region_list (steps1_sound hF.wideF hcf hrun henv ops.toList is s sf M G a w hρ hl hN h h1 hst (fun M' G' a' w' h' k1 k2 k3 => by
        obtain ⟨M2, G2, h2, e1, e2⟩ := SR.upgrade up (h'.keep keep)
        have g : Gstep ts.length G G2 := k3.trans (Gstep.same e1 e2)
        exact hQ M2 G2 a' w' h2 k1 (by rw [k2]; exact hm.step g) g))
    · cases he
  | .region id ops draw, .drw is late, hok => by
    intro env ρ F n Q s s' e M G a ts w henv hρ hF hl hN hm h he hQ
    simp only [okC, Bool.and_eq_true] at hok
    obtain ⟨⟨rfl, h1⟩, h2⟩ := hok
    simp only [evC] at he
    cases hdo : drwOk is (killAll (allocsOf is) s) with
    | false => simp [hdo] at he
    | true =>
    simp only [hdo, Bool.not_true, cond_false] at he
    split at he
    · rename_i sE hst
      split at he
      · rename_i sf hst2
        simp only [Option.some.injEq, Prod.mk.injEq] at he
        obtain ⟨rfl, rfl⟩ := he
        have hdrew : SR M0 w0 M G (a.tmps :: ts) { w with drawn := w.drawn + 1 } s :=
          ⟨ExtS.make h.ext.tab h.ext.same h.ext.ok.cell h.ext.ok.old (h.ext.below.trans ⟨rfl, rfl, rfl, Nat.le_refl _, fun _ _ => rfl⟩) h.ext.refs h.ext.ok.oldR, h.frames, h.boxes, h.rows, h.loops, h.recs, h.inj, h.marks.1, h.marks.2.still (Sub.refl M) rfl (fun _ _ _ e => e)⟩
        exact wpIn_region_any hmix (draw_sound hF.wideF hcf hrun henv h1 (okDraw_spec h2) hdo hst hst2 hρ hl hN hdrew (fun M' G' a' w' h' k1 k2 k3 => by
          obtain ⟨M2, G2, h2, e1, e2⟩ := SR.upgrade up (h'.keep keep)
          have g : Gstep ts.length G G2 := k3.trans (Gstep.same e1 e2)
          exact hQ M2 G2 a' w' h2 k1 (by rw [k2]; exact hm.step g) g))
      · cases he
    · cases he
  | .seq a1 b1, .seq a2 b2, hok => by
    intro env ρ F n Q s s' e M G a ts w henv hρ hF hl hN hm h he hQ
    simp only [okC, Bool.and_eq_true] at hok
    simp only [evC] at he
    refine wpIn_seq ?_
    split at he
    · rename_i s1 h1
      exact evC_sound hcf hrun hmix a1 a2 hok.1 env ρ F n _ s s1 .normal M G a ts w henv hρ hF hl hN hm h h1 (fun M' G' a' w' h' k1 k2 k3 => evC_sound hcf hrun hmix b1 b2 hok.2 env ρ F n Q s1 s' e M' G' a' ts w' henv (rho_step hρ k3) (hF.step k3) (hl.step k3) k1 k2 h' he
        (fun M2 G2 a2 w2 j1 j2 j3 j4 => hQ M2 G2 a2 w2 j1 j2 j3 (k3.trans j4)))
    · rename_i hne
      refine evC_sound hcf hrun hmix a1 a2 hok.1 env ρ F n _ s s' e M G a ts w henv hρ hF hl hN hm h he (fun M' G' a' w' h' k1 k2 k3 => ?_)
      cases e with
      | normal => exact absurd he (hne s')
      | exit id => exact hQ M' G' a' w' h' k1 k2 k3
      | ret => exact hQ M' G' a' w' h' k1 k2 k3
  | .cond c a1 b1, .cond c' a2 b2, hok => by
    intro env ρ F n Q s s' e M G a ts w henv hρ hF hl hN hm h he hQ
    simp only [okC, Bool.and_eq_true] at hok
    simp only [evC] at he
    split at he
    · rename_i t ht
      have hc := opd hok.1.1 (h.reads _)
      rw [ht] at hc
      refine wpIn_cond (t := t) (RD_bool hc) ?_
      cases t with
      | true => exact evC_sound hcf hrun hmix a1 a2 hok.1.2 env ρ F n Q s s' e M G a ts w henv hρ hF hl hN hm h he hQ
      | false => exact evC_sound hcf hrun hmix b1 b2 hok.2 env ρ F n Q s s' e M G a ts w henv hρ hF hl hN hm h he hQ
    · cases he
  | .block id b1, .blk id' b2, hok => by
    intro env ρ F n Q s s' e M G a ts w henv hρ hF hl hN hm h he hQ
    simp only [okC, Bool.and_eq_true, beq_iff_eq] at hok
    obtain ⟨rfl, hok⟩ := hok
    simp only [evC] at he
    refine wpIn_block ?_
    split at he
    · rename_i j s1 h1
      refine evC_sound hcf hrun hmix b1 b2 hok env ρ F n _ s s1 (.exit j) M G a ts w henv hρ hF hl hN hm h h1 (fun M' G' a' w' h' k1 k2 k3 => ?_)
      simp only [Ex.to, Exit.inBlock]
      rw [Bool.cond_eq_ite] at he
      split at he
      · rename_i hj
        simp only [beq_iff_eq] at hj
        simp only [Option.some.injEq, Prod.mk.injEq] at he
        obtain ⟨rfl, rfl⟩ := he
        rw [if_pos hj]
        exact hQ M' G' a' w' h' k1 k2 k3
      · rename_i hj
        simp only [beq_iff_eq] at hj
        simp only [Option.some.injEq, Prod.mk.injEq] at he
        obtain ⟨rfl, rfl⟩ := he
        rw [if_neg hj]
        exact hQ M' G' a' w' h' k1 k2 k3
    · rename_i hne
      refine evC_sound hcf hrun hmix b1 b2 hok env ρ F n _ s s' e M G a ts w henv hρ hF hl hN hm h he (fun M' G' a' w' h' k1 k2 k3 => ?_)
      cases e with
      | normal => exact hQ M' G' a' w' h' k1 k2 k3
      | exit j => exact absurd he (hne j s')
      | ret => exact hQ M' G' a' w' h' k1 k2 k3
  | .loop b1, .loop lv b2, hok => by
    intro env ρ F n Q s s' e M G a ts w henv hρ hF hl hN hm h he hQ
    simp only [okC] at hok
    simp only [evC] at he
    refine wpIn_loop_rounds k ?_
    have key : ∀ (m : Nat) (s : St) (M : Mem) (G1 : Gh) (a : Act) (w : World), Gstep ts.length G G1 → a.tmps.size = N → Marks ts.length G1 a.defers → SR M0 w0 M G1 (a.tmps :: ts) w s → iter (fun s => evC ⟨std, cf, run⟩ keep up k b2 env (s.keep lv).norm) m s = some (e, s') → Code.roundsIn F n P b1 Q m a w := by
      intro m
      induction m with
      | zero => intro s M G1 a w _ _ _ h he; simp [iter] at he
      | succ m ih =>
        intro s M G0 a w g hN hm h he
        simp only [iter] at he
        rw [roundsIn_succ]
        have h := (h.keep lv).norm
        have g0 : Gstep ts.length G0 G0.fresh := Gstep.same rfl rfl
        have g := g.trans g0
        have hm := hm.step g0
        generalize G0.fresh = G1 at h g hm
        generalize (s.keep lv).norm = s at h he
        split at he
        · rename_i s1 h1
          exact evC_sound hcf hrun hmix b1 b2 hok env ρ F n _ s s1 .normal M G1 a ts w henv (rho_step hρ g) (hF.step g) (hl.step g) hN hm h h1 (fun M' G' a' w' h' k1 k2 k3 => ih s1 M' G' a' w' (g.trans k3) k1 k2 h' he)
        · rename_i hne
          refine evC_sound hcf hrun hmix b1 b2 hok env ρ F n _ s s' e M G1 a ts w henv (rho_step hρ g) (hF.step g) (hl.step g) hN hm h he (fun M' G' a' w' h' k1 k2 k3 => ?_)
          cases e with
          | normal => exact absurd he (hne s')
          | exit id => exact hQ M' G' a' w' h' k1 k2 (g.trans k3)
          | ret => exact hQ M' G' a' w' h' k1 k2 (g.trans k3)
    exact key k s M G a w (Gstep.refl _ _) hN hm h he
  | .exit id, .exit id', hok => by
    intro env ρ F n Q s s' e M G a ts w henv hρ hF hl hN hm h he hQ
    simp only [okC, beq_iff_eq] at hok
    subst hok
    simp only [evC, Option.some.injEq, Prod.mk.injEq] at he
    obtain ⟨rfl, rfl⟩ := he
    exact wpIn_exit (hQ M G a w h hN hm (Gstep.refl _ _))
  | .ret, .ret, hok => by
    intro env ρ F n Q s s' e M G a ts w henv hρ hF hl hN hm h he hQ
    simp only [evC, Option.some.injEq, Prod.mk.injEq] at he
    obtain ⟨rfl, rfl⟩ := he
    exact wpIn_ret (hQ M G a w h hN hm (Gstep.refl _ _))
  | .rangeFunc g ps as bd, .rng lv g' ps' as' bd', hok => by
    intro env ρ F n Q s0 s' e M G0 a ts w henv hρ hF hl hN hm h he hQ0
    have h := (h.keep lv).norm
    have g0 : Gstep ts.length G0 G0.fresh := Gstep.same rfl rfl
    have hρ := rho_step hρ g0
    have hF := hF.step g0
    have hl := hl.step g0
    have hm := hm.step g0
    have hQ := fun M' G' a' w' h' k1 k2 k3 => hQ0 M' G' a' w' h' k1 k2 (g0.trans k3)
    clear hQ0
    simp only [okC, Bool.and_eq_true, beq_iff_eq] at hok
    obtain ⟨⟨⟨⟨hg, hps⟩, hpN⟩, has⟩, hbd⟩ := hok
    have hpN : ∀ p ∈ ps', p < N := fun p hp => by simpa using List.all_eq_true.1 hpN p hp
    have ih1 := evC_sound hcf hrun hmix (keep := keep) (up := up) (k := k) as as' has
    have ih2 := evC_sound hcf hrun hmix (keep := keep) (up := up) (k := k) bd bd' hbd
    simp only [evC] at he
    generalize G0.fresh = G at h hρ hF hl hm hQ
    clear g0
    generalize (s0.keep lv).norm = s at h he
    split at he
    · rename_i f caps hseq hno
      have hhgt := h.height
      obtain ⟨us0, hgv, hcaps⟩ := seqOf_ok (opd hg (h.reads _)) hseq
      split at he
      · rename_i d0 s2 hr
        have hnoG : G.lp s.lps.length = none := by
          cases hq : G.lp s.lps.length with
          | none => rfl
          | some p =>
            obtain ⟨l, r', h'⟩ := p
            obtain ⟨⟨ps, hps⟩, _⟩ := h.recs _ l r' h' hq
            rw [hno] at hps; cases hps
        refine wpIn_rangeFunc ?_
        intro fn hfn
        have core : ∀ (wb : World) (mk : Nat → Option Nat) (df : Nat) (mkl : List Deferred), SR M0 w0 M G (a.tmps :: ts) wb s → (∀ b j, mk b = some j → w0.heap.size ≤ b ∧ wb.heap[b]? = some (.deferred (some []))) →
            (∀ b j, G.mark b = some j → mk b = some j) → (∀ G' : Gh, (∀ b j, mk b = some j → j ≤ ts.length → G'.mark b = some j) → Marks ts.length G' (mkl ++ a.defers)) →
            There P f ∧ CallsIn F (n - 1) P f (#[.func (.yield wb.heap.size) #[] #[]] ++ us0.toArray) (wb.alloc (.loop { state := .ready, pending := none, fn, tmps := a.tmps, params := ps, assign := as, body := bd, defers := df }))
              (rangePost F n P wb.heap.size Q { a with defers := mkl ++ a.defers }) := by
          intro wb mk df mkl hb hmk hmkG hmks
          generalize hrr : ({ state := .ready, pending := none, fn, tmps := a.tmps, params := ps, assign := as, body := bd, defers := df } : Loop) = r
          have hr0 : recAt r .ready = r := by rw [← hrr]; rfl
          have hrt : r.tmps = a.tmps := by rw [← hrr]
          have h1 := hb.newLoop hno r hrt hr0 mk hmk
          generalize hG1 : ({ G with lp := fun j => if j = s.lps.length then some (wb.heap.size, r, ts.length) else G.lp j, mark := mk } : Gh) = G1 at h1
          have g1lp : ∀ j, G1.lp j = if j = s.lps.length then some (wb.heap.size, r, ts.length) else G.lp j := fun j => by rw [← hG1]
          have g1mk : G1.mark = mk := by rw [← hG1]
          have g1b : G1.blk = G.blk := by rw [← hG1]
          have g1r : G1.rows = G.rows := by rw [← hG1]
          let ρ1 : Nat → Option (Nat × Loop × Nat) := fun j => if j = s.lps.length then some (wb.heap.size, r, ts.length) else ρ j
          have hρno : ρ s.lps.length = none := by
            cases hq : ρ s.lps.length with
            | none => rfl
            | some q => have := hρ _ _ hq; rw [hnoG] at this; cases this
          have hρ1 : ∀ j q, ρ1 j = some q → G1.lp j = some q := fun j q hq => by
            rw [g1lp]
            by_cases e : j = s.lps.length
            · rw [if_pos e]; exact (if_pos e).symm.trans hq
            · rw [if_neg e]; exact hρ j q ((if_neg e).symm.trans hq)
          have henv1 : EnvOk P M0 w0 (env.and s.lps.length (round s.lps.length s.stk.length ps' (evC ⟨std, cf, run⟩ keep up k as' env) (evC ⟨std, cf, run⟩ keep up k bd' env))) ρ1 := by
            intro lvl ds sx d sy hh
            simp only [Env.and, Bool.cond_eq_ite, beq_iff_eq] at hh
            split at hh
            · rename_i el
              subst el
              refine ⟨_, if_pos rfl, fun M2 G2 ts2 w2 us hρ2 h2 hd2 => ?_⟩
              have hlp2 : G2.lp s.lps.length = some (wb.heap.size, r, s.stk.length) := by rw [hhgt]; exact hρ2 _ _ (if_pos rfl)
              refine round_sound ih1 ih2 henv hpN (by rw [← hrr]; exact hps) (by rw [← hrr]) (by rw [← hrr]) (by rw [hrt]; exact hN) hr0 hh (fun j q hq => hρ2 j q ?_) hlp2 h2 hd2
              show ρ1 j = some q
              simp only [ρ1]
              rw [if_neg]; exact hq
              rintro rfl
              rw [hρno] at hq; cases hq
            · rename_i el
              obtain ⟨p, hp, hh2⟩ := henv lvl ds sx d sy hh
              refine ⟨p, (if_neg el).trans hp, fun M2 G2 ts2 w2 us hρ2 h2 hd2 => hh2 M2 G2 ts2 w2 us (fun j q hq => hρ2 j q ?_) h2 hd2⟩
              show ρ1 j = some q
              simp only [ρ1]
              rw [if_neg]; exact hq
              rintro rfl
              rw [hρno] at hq; cases hq
          have hmore : ∀ j p, G.lp j = some p → G1.lp j = some p := fun j p hj => by
            rw [g1lp, if_neg]; exact hj
            rintro rfl
            rw [hnoG] at hj; cases hj
          have hargs : DL M G1 (.yld s.lps.length :: caps) (.func (.yield wb.heap.size) #[] #[] :: us0) := by
            refine ⟨by simp [hcaps.1], fun i d u hd hu => ?_⟩
            cases i with
            | zero =>
              simp at hd hu
              subst hd; subst hu
              exact ⟨wb.heap.size, r, ts.length, by rw [g1lp, if_pos rfl], rfl⟩
            | succ i => exact (hcaps.2 i d u (by simpa using hd) (by simpa using hu)).lpMore g1b g1r hmore
          obtain ⟨hth, hcall⟩ := hrun _ ρ1 f _ _ d0 s2 henv1 hr
          refine ⟨hth, hF.wideF.calls ?_⟩
          have hargs' : (#[.func (.yield wb.heap.size) #[] #[]] ++ us0.toArray : Array Value) = (.func (.yield wb.heap.size) #[] #[] :: us0).toArray := by
            apply Array.ext'; simp
          rw [hargs']
          refine (hcall M G1 (a.tmps :: ts) _ _ hρ1 h1 hargs).mono ?_
          rintro en w2 ⟨v, M2, G2, rfl, hd, hst, h2⟩
          have hst : Gstep ts.length G1 G2 := by rw [← hhgt]; exact hst
          have hlp2 : G2.lp s.lps.length = some (wb.heap.size, r, ts.length) := by rw [hst.1, g1lp, if_pos rfl]
          have hG2 : ∀ j, (if j = s.lps.length then none else G2.lp j) = G.lp j := fun j => by
            by_cases e : j = s.lps.length
            · rw [if_pos e, e, hnoG]
            · rw [if_neg e, hst.1, g1lp, if_neg e]
          have gfin : Gstep ts.length G { G2 with lp := fun j => if j = s.lps.length then none else G2.lp j } :=
            ⟨funext hG2, fun b j hb hj => hst.2 b j (by rw [g1mk]; exact hmkG b j hb) hj⟩
          have mfin : Marks ts.length { G2 with lp := fun j => if j = s.lps.length then none else G2.lp j } (mkl ++ a.defers) := hmks _ (fun b j hb hj => hst.2 b j (by rw [g1mk]; exact hb) hj)
          have fin : ∀ (psx : Ps) (e' : Ex), get s2.lps s.lps.length = some psx → psx ≠ .busy → psx.pd = e'.code → some (e', s2.killY s.lps.length) = some (e, s') → rangePost F n P wb.heap.size Q { a with defers := mkl ++ a.defers } (.returned v) w2 := by
            intro psx e' hpx hnb hpd hee
            simp only [Option.some.injEq, Prod.mk.injEq] at hee
            obtain ⟨rfl, rfl⟩ := hee
            obtain ⟨l', r', h', q1, q2⟩ := h2.loops _ psx hpx
            rw [hlp2] at q1; cases q1
            have hend := run_endLoop (P := P) q2 (by cases psx <;> first | exact absurd rfl hnb | (simp [recAt, Ps.st]))
            have hSR := h2.endLoop hlp2 (.loop { recAt r psx with state := .exhausted })
            have hpend : (recAt r psx).pending = e'.code := hpd
            refine ⟨e'.code, w2.putObj wb.heap.size (.loop { recAt r psx with state := .exhausted }), hend.trans (congrArg (fun x => Result.ok x _) hpend), ?_⟩
            have hq := hQ M2 _ { a with defers := mkl ++ a.defers } _ hSR hN mfin gfin
            cases e' with
            | normal => exact hq
            | exit id => exact wpIn_exit hq
            | ret => exact wpIn_ret hq
          split at he
          · rename_i hpx
            exact fin .ready .normal hpx (by simp) rfl he
          · rename_i e' hpx
            exact fin (.done e') e' hpx (by simp) rfl he
          · cases he
        have leads : ∀ (w1 : World) (t : Target) (args : Array Value) (f' : FuncId), Target.leads P w1 t args = some f' → F.fn f' := fun _ _ _ f' _ => hF.wideF.fn f'
        have res : ∀ (l : Nat) (w1 : World), (resolve a.eval (rangeCall g l) 0).run P w1 = .ok { target := .fn (.func f) us0.toArray, args := #[.func (.yield l) #[] #[]] } w1 := by
          intro l w1
          simp only [resolve, hgv]
          simp [go_sem]
        have inv : ∀ (l : Nat) (w1 : World), There P f → (invoke (.fn (.func f) us0.toArray) #[.func (.yield l) #[] #[]]).run P w1 = .ok (.enter f (#[.func (.yield l) #[] #[]] ++ us0.toArray)) w1 := by
          intro l w1 hth
          simp only [invoke]
          exact run_callFunc hth _ _
        rcases hF with rfl | ⟨lvl0, l0, r0, k0, rfl, hlp0⟩
        · have hx := alloc_ext' h.ext.ok (.deferred (some []))
          obtain ⟨hth, hcall⟩ := core (w.alloc (.deferred (some []))) (fun b => if b = w.heap.size then some ts.length else G.mark b) w.heap.size [markOf w.heap.size] (h.later hx)
            (fun b j hb => by
              by_cases e : b = w.heap.size
              · subst e; exact ⟨h.old, heap_alloc_new w _⟩
              · have hb' : G.mark b = some j := (if_neg e).symm.trans hb
                obtain ⟨q1, q2⟩ := h.marks.1 b j hb'
                exact ⟨q1, (heap_alloc_old w _ b (lt_of_heap q2)).trans q2⟩)
            (fun b j hb => by
              have := lt_of_heap (h.marks.1 b j hb).2
              rw [if_neg (by omega)]; exact hb)
            (fun G' hG' => by
              obtain ⟨bs, e1, e2, e3⟩ := hm
              have hlt : ∀ b ∈ bs, b < w.heap.size := fun b hb => lt_of_heap (h.marks.1 b _ (e3 b hb)).2
              refine ⟨w.heap.size :: bs, by rw [e1]; rfl, List.nodup_cons.2 ⟨fun hb => by have := hlt _ hb; omega, e2⟩, fun b hb => ?_⟩
              rcases List.mem_cons.1 hb with rfl | hb
              · exact hG' _ _ (if_pos rfl) (Nat.le_refl _)
              · have := hlt b hb
                exact hG' b ts.length (by rw [if_neg (by omega)]; exact e3 b hb) (Nat.le_refl _))
          have hent := run_enterLoop_outer (P := P) (w := w) fn a.tmps ps as bd
          rw [World.size_alloc] at hcall
          exact ⟨w.heap.size + 1, _, _, _, _, f, _, _, hent, res _ _, leads _ _ _, inv _ _ hth, fun hd => by simp [Fence.wide] at hd, hcall⟩
        · obtain ⟨⟨ps0, hps0⟩, _⟩ := h.recs lvl0 l0 r0 k0 hlp0
          obtain ⟨l', r', h', q1, q2⟩ := h.loops lvl0 ps0 hps0
          rw [hlp0] at q1; cases q1
          obtain ⟨hth, hcall⟩ := core w G.mark (recAt r0 ps0).defers [] h h.marks.1 (fun b j hb => hb) (fun G' hG' => by
            obtain ⟨bs, e1, e2, e3⟩ := hm
            exact ⟨bs, e1, e2, fun b hb => hG' b _ (e3 b hb) (Nat.le_refl _)⟩)
          have hent : (Instr.enterLoop fn a.tmps ps as bd (some l0)).run P w = .ok (w.heap.size, []) (w.alloc (.loop { state := .ready, pending := none, fn, tmps := a.tmps, params := ps, assign := as, body := bd, defers := (recAt r0 ps0).defers })) := by
            unfold Instr.enterLoop
            simp only [Sem.run_bind, run_getLoop q2, run_newObj_alloc, Result.andThen, Sem.run_pure]
          exact ⟨w.heap.size, [], _, _, _, f, _, _, hent, res _ _, leads _ _ _, inv _ _ hth, fun hd => by simp [Fence.wide, Fence.inRound] at hd, hcall⟩
      · cases he
    · cases he
end

end Go.Evl
