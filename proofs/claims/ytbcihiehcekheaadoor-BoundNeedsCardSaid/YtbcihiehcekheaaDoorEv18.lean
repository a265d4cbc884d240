/-
  A value semantics for the program's code, part 18: the whole of a code.
  Conditions: none; this text holds definitions and lemmas of their own.
-/
import Derived.Test.YtbcihiehcekheaaDoorEv17
namespace Go.Evl
open Go Go.RowKit
set_option linter.unusedVariables false
set_option linter.unusedSimpArgs false

section
variable {P : Program} {cf : FuncId → List V → Option V} {run : Env → FuncId → List D → St → Option (D × St)}
variable {M0 : Mem} {w0 : World} {N : Nat}

/-- What is shown of a code. -/
def CodeOk (P : Program) (M0 : Mem) (w0 : World) (N : Nat) (c : Code) (f : Env → St → Option (Ex × St)) : Prop :=
  ∀ (env : Env) (ρ : Nat → Option (Nat × Loop × Nat)) (F : Fence) (n : Nat) (Q : Exit → Act → World → Prop) (s s' : St) (e : Ex) (M : Mem) (G : Gh) (a : Act) (ts : List (Array Value)) (w : World),
    EnvOk P M0 w0 env ρ → (∀ j q, ρ j = some q → G.lp j = some q) → FenceOk F G → Lower G ts.length → a.tmps.size = N → Marks ts.length G a.defers → SR M0 w0 M G (a.tmps :: ts) w s → f env s = some (e, s') →
    (∀ M' G' a' w', SR M0 w0 M' G' (a'.tmps :: ts) w' s' → a'.tmps.size = N → Marks ts.length G' a'.defers → Gstep ts.length G G' → Q e.to a' w') → c.wpIn F n P Q a w

theorem round_sound {as bd : Code} {ev1 ev2 : Env → St → Option (Ex × St)} (h1 : CodeOk P M0 w0 N as ev1) (h2 : CodeOk P M0 w0 N bd ev2) {env : Env} {ρ : Nat → Option (Nat × Loop × Nat)} (henv : EnvOk P M0 w0 env ρ)
    {lvl l hgt : Nat} {r : Loop} {ps : List Nat} (hps : ∀ p ∈ ps, p < N) (hr1 : r.params.toList = ps) (hr2 : r.assign = as) (hr3 : r.body = bd) (hr4 : r.tmps.size = N) (hr5 : recAt r .ready = r)
    {ds : List D} {s s' : St} {d : D} (he : round lvl hgt ps (ev1 env) (ev2 env) ds s = some (d, s'))
    {M : Mem} {G : Gh} {ts : List (Array Value)} {w : World} {us : List Value} (hρ : ∀ j q, ρ j = some q → G.lp j = some q) (hlp : G.lp lvl = some (l, r, hgt)) (h : SR M0 w0 M G ts w s) (hd : DL M G ds us) :
    Yields P l us.toArray w fun v w' => ∃ M' G', RD M' G' d v ∧ Gstep s.stk.length G G' ∧ SR M0 w0 M' G' ts w' s' := by
  obtain ⟨t0, ts0, rfl⟩ : ∃ t0 ts0, ts = t0 :: ts0 := by
    cases ts with
    | nil => have := h.frames.1; simp at this
    | cons t0 ts0 => exact ⟨t0, ts0, rfl⟩
  have hgtl := h.height
  simp only [round] at he
  split at he
  · rename_i hready
    split at he
    · rename_i snap hsnap
      obtain ⟨hlen, he⟩ := cond_some he
      have hlen : ds.length = ps.length := by simpa using hlen
      split at he
      · rename_i s2 hs2
        split at he
        · rename_i hready2
          split at he
          · rename_i e s3 hs3
            split at he
            · rename_i rg st hst
              simp only [Option.some.injEq, Prod.mk.injEq] at he
              obtain ⟨rfl, rfl⟩ := he
              obtain ⟨l', r', h', q1, q2⟩ := h.loops lvl .ready hready
              rw [hlp] at q1; cases q1
              obtain ⟨_, _, q3, q4⟩ := h.recs lvl l r hgt hlp
              have hidx : (t0 :: ts0).length - 1 - hgt = s.stk.length - hgt := by rw [hgtl]; simp
              rw [hidx] at q4
              have hfr := h.frames.2 _ snap r.tmps hsnap q4
              obtain ⟨a1, a2⟩ := assign_ok ps ds us snap r.tmps hps hr4 hlen hd hfr
              have hnew := h.push a2
              refine ⟨r.fn, (ps.zip us).foldl (fun t (p, v) => t.setIfInBounds p v) r.tmps, as, bd, ?_, fun n => ?_⟩
              · have hsz : us.toArray.size = (recAt r .ready).params.size := by
                  rw [hr5, List.size_toArray, hd.1, hlen, ← hr1, Array.length_toList]
                rw [run_yield q2 hsz, hr5, hr2, hr3]
                congr 2
                rw [← hr1, ← Array.foldl_toList, Array.toList_zip, List.toList_toArray]
              · refine roundIn_of_wpIn trivial ?_
                refine h1 env ρ (Fence.wide.inRound l) n _ _ s2 .normal M G _ _ w henv hρ (.inr ⟨lvl, l, r, hgt, rfl, hlp⟩) h.lower a1 (Marks.nil _ _) hnew hs2 (fun M2 G2 a2' w2 k1 k2 k3 k4 => ?_)
                have hlp2 : G2.lp lvl = some (l, r, hgt) := by rw [k4.1]; exact hlp
                obtain ⟨l', r', h', q5, q6⟩ := k1.loops lvl .ready hready2
                rw [hlp2] at q5; cases q5
                have hb := run_beginRound (P := P) q6 (by rw [hr5]; exact (congrArg Loop.state hr5).symm)
                refine ⟨_, hb, ?_⟩
                have hbusy := k1.putLoop hlp2 .busy
                have hobj : (Obj.loop { recAt r .ready with state := .busy }) = .loop (recAt r .busy) := rfl
                rw [hobj]
                refine h2 env ρ (Fence.wide.inRound l) n _ _ s3 e M2 G2 a2' _ _ henv (rho_step hρ k4) (.inr ⟨lvl, l, r, hgt, rfl, hlp2⟩) (h.lower.step k4) k2 k3 hbusy hs3 (fun M3 G3 a3 w3 j1 j2 j3 j4 => ?_)
                have hlp3 : G3.lp lvl = some (l, r, hgt) := by rw [j4.1]; exact hlp2
                obtain ⟨⟨psx, q7⟩, _⟩ := j1.recs lvl l r hgt hlp3
                obtain ⟨l', r', h', q8, q9⟩ := j1.loops lvl psx q7
                rw [hlp3] at q8; cases q8
                have hend := fun jump => run_endRound (P := P) (jump := jump) q9
                have hpop := (j1.pop hst ((h.lower.step k4).step j4)).putLoop hlp3 (Ps.ofEx e)
                have hg : Gstep s.stk.length G G3 := (k4.trans j4).le (by rw [hgtl]; simp)
                cases e with
                | normal => exact ⟨_, _, hend none, _, rfl, M3, G3, R_bool' M3 true, hg, hpop⟩
                | exit id => exact ⟨_, _, hend (some (.exit id)), _, rfl, M3, G3, R_bool' M3 false, hg, hpop⟩
                | ret => exact ⟨_, _, hend (some .ret), _, rfl, M3, G3, R_bool' M3 false, hg, hpop⟩
            · cases he
          · cases he
        · cases he
      · cases he
    · cases he
  · cases he

end

end Go.Evl
