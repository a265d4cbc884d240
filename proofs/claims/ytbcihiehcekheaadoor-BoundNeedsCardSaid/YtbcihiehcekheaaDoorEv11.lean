/-
  A value semantics for the program's code, part 11: an operation that turns nothing, in its place.
  Conditions: none; this text holds definitions and lemmas of their own.
-/
import Derived.Test.YtbcihiehcekheaaDoorEv10
namespace Go.Evl
open Go Go.RowKit
set_option linter.unusedVariables false
set_option linter.unusedSimpArgs false

section
variable {P : Program} {o : Oper} {a : Act} {w : World} {M : Mem} {G : Gh} {B : Nat} {cf : FuncId → List V → Option V} {rd : A → D} {bx : Nat → Option (List D)} {d : D}
variable {F : Fence} {n : Nat} {K : Act → World → Prop} {Q : Exit → Act → World → Prop}

theorem ev0_sound (hF : WideF F) (hcf : CfOk P cf) (hm : Ok M w) (hbx : ∀ id cs, bx id = some cs → BoxOk M G B w id cs) {x : O} (hok : okOp P o.op x = true) (hr : Reads M G a rd x.tmps)
    (he : ev0 std cf rd bx x = some d) (hK : ∀ v M' w', Ext M w M' w' → RD M' G d v → K (a.put o.dst v) w') : o.wpIn F n P a w K Q := by
  cases x with
  | mov x =>
    obtain ⟨y, hop, h1⟩ := ok_mov hok
    simp only [ev0, Option.some.injEq] at he
    subst he
    refine gives_wp hF ?_ (g_mov hm hop h1 hr) hK
    rcases hop with hop | hop <;> (intro c hc; rw [hop] at hc; cases hc)
  | pick c x y =>
    obtain ⟨c', x', y', hop, h1, h2, h3⟩ := ok_pick hok
    simp only [ev0] at he
    split at he
    · rename_i t hc
      simp only [Option.some.injEq] at he
      subst he
      exact gives_wp hF (fun c hc => by rw [hop] at hc; cases hc) (g_pick hm hop h1 h2 h3 hr hc) hK
    · cases he
  | bin op x y =>
    obtain ⟨t, t', x', y', hop, h1, h2⟩ := ok_bin hok
    simp only [ev0] at he
    split at he
    · rename_i p q hx hy
      obtain ⟨v, hv, rfl⟩ := pv_some he
      exact gives_wp hF (fun c hc => by rw [hop] at hc; cases hc) (g_bin hm hop h1 h2 hr hx hy hv) hK
    · cases he
  | eqa ng n x y =>
    obtain ⟨t, t', x', y', fs, hop, h1, h2, h3, h4, h5, h6, h7⟩ := ok_eqa hok
    simp only [ev0] at he
    split at he
    · rename_i cs es hx hy
      obtain ⟨hl, he⟩ := cond_some he
      simp only [Bool.and_eq_true, beq_iff_eq] at hl
      split at he
      · rename_i b hb
        simp only [Option.some.injEq] at he
        subst he
        exact gives_wp hF (fun c hc => by rw [hop] at hc; cases hc) (g_eqa hm hop h1 h2 h3 h4 h5 h6 h7 hr hx hy hl.1 hb) hK
      · cases he
    · cases he
  | eqb ng x y =>
    obtain ⟨t, t', x', y', hop, h1, h2, h3⟩ := ok_eqb hok
    simp only [ev0] at he
    split at he
    · rename_i b b' hx hy
      simp only [Option.some.injEq] at he
      subst he
      exact gives_wp hF (fun c hc => by rw [hop] at hc; cases hc) (g_eqb hm hop h1 h2 h3 hr hx hy) hK
    · cases he
  | mm mx x y =>
    obtain ⟨c, x', y', hop, hc, ha, h1, h2⟩ := ok_mm hok
    simp only [ev0] at he
    split at he
    · rename_i k m k' n hx hy
      obtain ⟨hk, he⟩ := cond_some he
      simp only [Option.some.injEq] at he
      subst he
      exact gives_wp hF (fun c hc => by rw [hop] at hc; cases hc) (g_mm hm hop hc ha h1 h2 hr hx hy) hK
    · cases he
  | nott x =>
    obtain ⟨t, x', hop, h1⟩ := ok_not hok
    simp only [ev0] at he
    split at he
    · rename_i b hx
      simp only [Option.some.injEq] at he
      subst he
      exact gives_wp hF (fun c hc => by rw [hop] at hc; cases hc) (g_not hm hop h1 hr hx) hK
    · cases he
  | neg x =>
    obtain ⟨t, x', hop, h1⟩ := ok_neg hok
    simp only [ev0] at he
    split at he
    · rename_i k m hx
      simp only [Option.some.injEq] at he
      subst he
      exact gives_wp hF (fun c hc => by rw [hop] at hc; cases hc) (g_neg hm hop h1 hr hx) hK
    · cases he
  | load sz ag x =>
    obtain ⟨t, x', hop, h1, h2, h3⟩ := ok_load hok
    simp only [ev0] at he
    split at he
    · rename_i cs off hx
      obtain ⟨v, hv, rfl⟩ := pv_some he
      exact gives_wp hF (fun c hc => by rw [hop] at hc; cases hc) (g_load hm hop h1 h2 h3 hr hx hv) hK
    · rename_i id off hx
      split at he
      · rename_i cs hb
        cases hrow : isRow cs with
        | true => rw [hrow] at he; cases he
        | false =>
          rw [hrow] at he
          exact gives_wp hF (fun c hc => by rw [hop] at hc; cases hc) (g_loadD hm hbx hop h1 h2 h3 hr hx hb hrow he) hK
      · cases he
    · rename_i id sz' i off hx
      split at he
      · rename_i ty xs hb
        obtain ⟨hz, he⟩ := cond_some he
        simp only [Bool.and_eq_true, beq_iff_eq, Nat.blt_eq, Nat.ble_eq] at hz
        split at he
        · rename_i e hi
          obtain ⟨v, hv, rfl⟩ := pv_some he
          exact gives_wp hF (fun c hc => by rw [hop] at hc; cases hc) (g_loadE hm hbx hop h1 h2 h3 hr hx hb hz.1 hz.2.1 hz.2.2 hi hv) hK
        · cases he
      · cases he
    · cases he
  | fa off x =>
    obtain ⟨t, x', f, fd, s, hop, h1, h2, h3, h4, h5⟩ := ok_fa hok
    exact gives_wp hF (fun c hc => by rw [hop] at hc; cases hc) (g_fa hm hop h1 h2 h3 h4 h5 hr he) hK
  | fld off sz ag x =>
    obtain ⟨t, x', f, fd, hop, h1, h2, h3, h4, h5⟩ := ok_fld hok
    simp only [ev0] at he
    split at he
    · rename_i cs hx
      obtain ⟨v, hv, rfl⟩ := pv_some he
      exact gives_wp hF (fun c hc => by rw [hop] at hc; cases hc) (g_fld hm hop h1 h2 h3 h4 h5 hr hx hv) hK
    · cases he
  | ia sz x i =>
    obtain ⟨t, e, x', i', hop, h1, h2, h3, h4, h5⟩ := ok_ia hok
    simp only [ev0] at he
    split at he
    · rename_i k m hi
      split at he
      · rename_i id sz' lo len hx
        obtain ⟨hc, he2⟩ := cond_some he
        simp only [Bool.and_eq_true, beq_iff_eq] at hc
        obtain ⟨e0, hc⟩ := hc
        simp only [std, Bool.and_eq_true, decide_eq_true_eq] at hc
        subst e0
        cases he2
        exact gives_wp hF (fun c hc => by rw [hop] at hc; cases hc) (g_iam hm hop h1 h2 h3 h4 h5 hr hx hi hc.1 hc.2) hK
      · split at he
        · rename_i hx
          obtain ⟨hz, he⟩ := cond_some he
          split at he
          · rename_i v hv
            simp only [Option.some.injEq] at he
            subst he
            exact gives_wp hF (fun c hc => by rw [hop] at hc; cases hc) (g_ia hm hop h1 h2 h3 h4 h5 hr hx hi hv (by simpa using hz)) hK
          · cases he
        · cases he
    · cases he
  | iaa len sz x i =>
    obtain ⟨t, e, x', i', hop, h1, h2, h3, h4⟩ := ok_iaa hok
    simp only [ev0] at he
    split at he
    · rename_i cs off k m hx hi
      obtain ⟨hb, he⟩ := cond_some he
      exact gives_wp hF (fun c hc => by rw [hop] at hc; cases hc) (g_iaa hm hop h1 h2 h3 h4 hr hi hb (by rw [hx]; exact he)) hK
    · rename_i id off k m hx hi
      obtain ⟨hb, he⟩ := cond_some he
      exact gives_wp hF (fun c hc => by rw [hop] at hc; cases hc) (g_iaa hm hop h1 h2 h3 h4 hr hi hb (by rw [hx]; exact he)) hK
    · cases he
  | idx len sz ag x i =>
    obtain ⟨t, e, x', i', hop, h1, h2, h3, h4, h5⟩ := ok_idx hok
    simp only [ev0] at he
    split at he
    · rename_i cs k m hx hi
      obtain ⟨hb, he⟩ := cond_some he
      obtain ⟨v, hv, rfl⟩ := pv_some he
      exact gives_wp hF (fun c hc => by rw [hop] at hc; cases hc) (g_idx hm hop h1 h2 h3 h4 h5 hr hx hi hb hv) hK
    · cases he
  | sidx x i =>
    obtain ⟨t, x', i', hop, h1, h2, h3⟩ := ok_sidx hok
    simp only [ev0] at he
    split at he
    · rename_i s k m hx hi
      split at he
      · rename_i b hb
        simp only [Option.some.injEq] at he
        subst he
        exact gives_wp hF (fun c hc => by rw [hop] at hc; cases hc) (g_sidx hm hop h1 h2 h3 hr hx hi hb) hK
      · cases he
    · cases he
  | ext i x =>
    obtain ⟨x', hop, h1⟩ := ok_ext hok
    simp only [ev0] at he
    split at he
    · rename_i vs hx
      obtain ⟨v, hv, rfl⟩ := pv_some he
      exact gives_wp hF (fun c hc => by rw [hop] at hc; cases hc) (g_ext hm hop h1 hr hx hv) hK
    · cases he
  | call f as =>
    obtain ⟨c, hop, hc, h1⟩ := ok_call hok
    simp only [ev0] at he
    split at he
    · rename_i vs hv
      obtain ⟨v, hv', rfl⟩ := pv_some he
      exact s_calls hF hcf hm hop hc (us := []) (caps := []) rfl (by rw [RL]) h1 hr hv (by simpa using hv') hK
    · cases he
  | callv g as =>
    obtain ⟨c, fo, hop, hc, h0, h1⟩ := ok_callv hok
    simp only [ev0] at he
    split at he
    · rename_i f caps vs hg hv
      obtain ⟨v, hv', rfl⟩ := pv_some he
      have hgv := opd h0 (hr.mono (fun t ht => by simp [O.tmps, ht]))
      rw [hg] at hgv
      have hgv : R M (.clo f caps) _ := hgv
      rw [R] at hgv
      obtain ⟨us, e, hus⟩ := hgv
      exact s_calls hF hcf hm hop hc (us := us) (caps := caps) e hus h1 (hr.mono (fun t ht => by simp [O.tmps, ht])) hv hv' hK
    · cases he
  | len x =>
    obtain ⟨c, t, e, y, hop, hc, ha, ht, h1, h2⟩ := ok_len hok
    simp only [ev0] at he
    split at he
    · rename_i id sz lo len hx
      simp only [Option.some.injEq] at he
      subst he
      exact gives_wp hF (fun c hc => by rw [hop] at hc; cases hc) (g_lenm hm hop hc ha ht h1 h2 hr hx) hK
    · split at he
      · rename_i hx
        simp only [Option.some.injEq] at he
        subst he
        exact gives_wp hF (fun c hc => by rw [hop] at hc; cases hc) (g_len hm hop hc ha ht h1 h2 hr hx) hK
      · cases he
  | slen x =>
    obtain ⟨c, t, y, hop, hc, ha, ht, h1, h2⟩ := ok_slen hok
    simp only [ev0] at he
    split at he
    · rename_i s hx
      simp only [Option.some.injEq] at he
      subst he
      exact gives_wp hF (fun c hc => by rw [hop] at hc; cases hc) (g_slen hm hop hc ha ht h1 h2 hr hx) hK
    · cases he
  | bld zero qs =>
    obtain ⟨t, ps, fs, inf, z, hop, h1, h2, h3, h4, h5, h6⟩ := ok_bld hok
    simp only [ev0] at he
    split at he
    · rename_i vs hp
      split at he
      · rename_i cs hcs
        simp only [Option.some.injEq] at he
        subst he
        exact gives_wp hF (fun c hc => by rw [hop] at hc; cases hc) (g_bld hm hop h1 h2 h3 h4 h5 h6 hr hp hcs) hK
      · cases he
    · cases he
  | blda zero sz qs =>
    obtain ⟨t, n, e, ps, inf, z, hop, h1, h2, h3, h4, h5, h6⟩ := ok_blda hok
    simp only [ev0] at he
    split at he
    · rename_i vs hp
      split at he
      · rename_i cs hcs
        simp only [Option.some.injEq] at he
        subst he
        exact gives_wp hF (fun c hc => by rw [hop] at hc; cases hc) (g_blda hm hop h1 h2 h3 h4 h5 h6 hr hp hcs) hK
      · cases he
    · cases he
  | asl ty n x =>
    obtain ⟨t, e, x', hop, h1, h3, h4⟩ := ok_asl hok
    simp only [ev0] at he
    split at he
    · rename_i cs hx
      obtain ⟨hl, he⟩ := cond_some he
      split at he
      · rename_i ds hd
        simp only [Option.some.injEq] at he
        subst he
        exact gives_wp hF (fun c hc => by rw [hop] at hc; cases hc) (g_asl hm hd hop h1 h3 h4 hr hx (by simpa using hl)) hK
      · cases he
    · cases he
  | bsl ty zero sz n qs =>
    obtain ⟨t, e, ps, inf, z, hop, h1, h2, h3, h4, h5, h6, h7, h8, h9, h10⟩ := ok_bsl hok
    simp only [ev0] at he
    split at he
    · rename_i vs hp
      split at he
      · rename_i cs hcs
        split at he
        · rename_i ds hd
          simp only [Option.some.injEq] at he
          subst he
          exact gives_wp hF (fun c hc => by rw [hop] at hc; cases hc) (g_bsl hm hop h1 h2 h3 h4 h5 h6 h7 h8 h9 h10 hr hp hcs hd) hK
        · cases he
      · cases he
    · cases he
  | mkf f as =>
    obtain ⟨caps, hop, h1⟩ := ok_mkf hok
    simp only [ev0] at he
    split at he
    · rename_i vs hv
      simp only [Option.some.injEq] at he
      subst he
      exact gives_wp hF (fun c hc => by rw [hop] at hc; cases hc) (g_mkf hm hop h1 hr hv) hK
    · cases he
  | slc sz x lo hi mx =>
    obtain ⟨t, e, x', lo', hi', mx', hop, h1, h2, h3, h4, h5, h6, h7⟩ := ok_slc hok
    simp only [ev0] at he
    split at he
    · rename_i l h m hl hh hmx
      have hxv := opd h1 (hr.mono (fun t ht => by simp [O.tmps, ht]))
      split at he
      · rename_i fl ty xs hx
        obtain ⟨hz, he⟩ := cond_some he
        split at he
        · rename_i q hv
          simp only [Option.some.injEq] at he
          subst he
          rw [hx] at hxv
          exact gives_wp hF (fun c hc => by rw [hop] at hc; cases hc) (g_slc hm hop h1 h2 h3 h4 h5 h6 h7 hr hl hh hmx hxv (by simpa using hz) hv) hK
        · cases he
      · rename_i id ver ty xs hx
        obtain ⟨hz, he⟩ := cond_some he
        split at he
        · rename_i q hv
          simp only [Option.some.injEq] at he
          subst he
          rw [hx] at hxv
          exact gives_wp hF (fun c hc => by rw [hop] at hc; cases hc) (g_slc hm hop h1 h2 h3 h4 h5 h6 h7 hr hl hh hmx hxv.1 (by simpa using hz) hv) hK
        · cases he
      · rename_i id sz' lo0 len hx
        obtain ⟨hz, he2⟩ := cond_some he
        simp only [Bool.and_eq_true, beq_iff_eq] at hz
        obtain ⟨e0, hz⟩ := hz
        have e1 : m = none := by cases m <;> first | rfl | cases hz
        subst e0
        subst e1
        split at he2
        · rename_i q hv
          simp only [Option.some.injEq] at he2
          subst he2
          have hmx' : mx' = none := by
            rcases opt_run h4 (hr.mono (fun t ht => by simp [O.tmps, ht])) hmx with ⟨e, _⟩ | ⟨_, _, _, _, e, _⟩
            · exact e
            · cases e
          subst hmx'
          exact gives_wp hF (fun c hc => by rw [hop] at hc; cases hc) (g_slcm hm hop h1 h2 h3 h5 h6 (hr.mono (fun t ht => by simp only [O.tmps, List.mem_append] at ht ⊢; exact .inl ht)) hl hh hx hv) hK
        · cases he2
      · cases he
    · cases he
  | sstr x lo hi =>
    obtain ⟨t, x', lo', hi', hop, h1, h2, h3, h5⟩ := ok_sstr hok
    simp only [ev0] at he
    split at he
    · rename_i l h hl hh
      split at he
      · rename_i s hx
        split at he
        · rename_i r hs
          simp only [Option.some.injEq] at he
          subst he
          exact gives_wp hF (fun c hc => by rw [hop] at hc; cases hc) (g_sstr hm hop h1 h2 h3 h5 hr hl hh hx hs) hK
        · cases he
      · cases he
    · cases he
  | conv k x =>
    obtain ⟨src, dst, x', hop, h1, h2, h3⟩ := ok_conv hok
    simp only [ev0] at he
    split at he
    · rename_i k' m hx
      simp only [Option.some.injEq] at he
      subst he
      exact gives_wp hF (fun c hc => by rw [hop] at hc; cases hc) (g_conv hm hop h1 h2 h3 hr hx) hK
    · cases he
  | nilck x =>
    obtain ⟨x', hop, h1⟩ := ok_nilck hok
    exact gives_wp hF (fun c hc => by rw [hop] at hc; cases hc) (g_nilck hm hop h1 hr he) hK
  | boxi x =>
    obtain ⟨t, x', hop, h1⟩ := ok_boxi hok
    simp only [ev0] at he
    split at he
    · cases he
    · rename_i v hnt hv
      simp only [Option.some.injEq] at he
      subst he
      exact gives_wp hF (fun c hc => by rw [hop] at hc; cases hc) (g_boxi hm hop h1 hr hv (fun vs e => by subst e; simp_all)) hK
    · cases he
  | alloc zero => simp [ev0] at he
  | boxm x => simp [ev0] at he
  | store sz x y => simp [ev0] at he
  | app sz bytes x y => simp [ev0] at he
  | frz x => simp [ev0] at he
  | mkm _ => simp [ev0] at he
  | mset _ _ _ _ _ => simp [ev0] at he
  | mget _ _ _ _ _ _ => simp [ev0] at he
  | cln f sz bytes x => simp [ev0] at he
  | allb zero => simp [ev0] at he
  | bcc f x => simp [ev0] at he
  | apps x y => simp [ev0] at he
  | bstr f x => simp [ev0] at he
  | clr zero x => simp [ev0] at he
end

end Go.Evl
