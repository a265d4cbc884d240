/-
  A value semantics for the program's code, part 9: slice literals, slices of slices, calls; and all operations that turn nothing in one theorem.
  Conditions: none; this text holds definitions and lemmas of their own.
-/
import Derived.Test.YtbcihiehcekheaaDoorEv8
namespace Go.Evl
open Go Go.RowKit
set_option linter.unusedVariables false
set_option linter.unusedSimpArgs false

theorem zero_R {M : Mem} {z : Value} {zero : V} (h : okVs z.cells.toList zero.cells = true)
    (hs : shaped zero z = true) :
    R M zero z ∧ (∀ c ∈ z.cells.toList, single c) ∧ ∀ vs, zero ≠ .tup vs := by
  obtain ⟨h1, h2⟩ := okVs_RL (M := M) h
  refine ⟨?_, h2, ?_⟩
  · cases zero <;> cases z <;> simp [shaped] at hs <;> simp only [V.cells, Value.cells] at h h1 h2 ⊢ <;> first
      | (rw [RL] at h1
         obtain ⟨u, us, he, hr, _⟩ := h1
         simp at he
         obtain ⟨rfl, _⟩ := he
         exact hr)
      | (rw [R]
         exact ⟨_, by simp, h1, h2⟩)
  · rintro vs rfl
    cases z <;> simp [shaped] at hs

theorem flat_replicate {z : Value} {sz n : Nat} (hz : z.cells.size = sz) (h0 : sz ≠ 0) : (flat (List.replicate n z)).toArray = (Array.range (n * sz)).map (z.cells[· % z.cells.size]!) := by
  have hall : ∀ u ∈ List.replicate n z, u.cells.size = sz := fun u hu => by rw [(List.mem_replicate.1 hu).2]; exact hz
  apply Array.ext_getElem?
  intro k
  have hl := flat_length hall
  rw [List.length_replicate] at hl
  by_cases hk : k < n * sz
  · have hi : k / sz < n := by rw [Nat.div_lt_iff_lt_mul (by omega)]; exact hk
    have hj : k % sz < sz := Nat.mod_lt _ (by omega)
    have := flat_get hall (i := k / sz) (u := z) (by simp [List.getElem?_replicate, hi]) (k % sz) hj
    rw [Nat.div_add_mod'] at this
    rw [List.getElem?_toArray, this]
    simp [Array.getElem?_map, Array.getElem?_range, hk, hz, hj]
  · rw [List.getElem?_toArray, List.getElem?_eq_none (by omega)]
    simp [hk]

section
variable {P : Program} {o : Oper} {a : Act} {w : World} {M : Mem} {G : Gh} {B : Nat} {cf : FuncId → List V → Option V} {rd : A → D} {bx : Nat → Option (List D)} {d : D}

theorem run_bsl0 {t e : TypeId} {inf : TypeInfo} (h2 : P.underlying t = some (.slice e)) (h3 : P.info? e = some inf) (w : World) :
    (Instr.buildSlice t 0 ((#[] : Array (Nat × Operand)).map fun (i, x) => (i, a.eval x))).run P w = .ok (.slice (some ⟨w.heap.size, 0, none⟩) 0 0) (w.alloc (.cells ([] : List Value).toArray e)) := by
  simp [Instr.buildSlice, run_underlying h2, sizeOf, typeInfo, h3, Instr.fill, newRow, show Array.range 0 = #[] from rfl]

theorem g_bsl (hm : Ok M w) {t e : TypeId} {n sz : Nat} {ps : Array (Nat × Operand)} {zero : V} {qs : List (Nat × A)} {inf : TypeInfo} {z : Value} {vs : List (Nat × V)} {xs : List V} (hop : o.op = .buildSlice t n ps)
    (h1 : okP2 ps.toList qs = true) (h2 : P.underlying t = some (.slice e)) (h3 : P.info? e = some inf) (h4 : inf.size = sz) (h5 : sz ≠ 0) (h6 : n * sz ≤ 16777216) (h7 : inf.zero = some z) (h8 : okVs z.cells.toList zero.cells = true) (h9 : z.cells.size = sz)
    (h10 : shaped zero z = true)
    (hr : Reads M G a rd (tmpsL (qs.map fun p => p.2))) (hp : parts2 rd qs = some vs) (he : fillS (List.replicate n zero) sz vs = some xs) {ty : Ty} {ds : List ty.D} (hd : decL ty xs = some ds) : Gives P M G w (.p (.sl true ty ds)) (execOp a.eval o) := by
  obtain ⟨hz1, hz2, hz3⟩ := zero_R (M := M) h8 h10
  obtain ⟨hl1, hg1⟩ := okP2_get h1
  obtain ⟨hl2, hg2⟩ := parts2_get hp
  have hev : (ps.map fun (i, x) => (i, a.eval x)).toList = ps.toList.map fun x => (x.1, a.eval x.2) := by simp
  have hall : ∀ u ∈ List.replicate n z, u.cells.size = sz := fun u hu => by rw [(List.mem_replicate.1 hu).2]; exact h9
  obtain ⟨us', hf, hru, hsz', hsu⟩ := fillS_run (M := M) (sz := sz) (ps.map fun (i, x) => (i, a.eval x)).toList vs (List.replicate n z) (List.replicate n zero) xs (by rw [hev]; simp [hl1, hl2])
    (fun k i j u v hk hv => by
      rw [hev, List.getElem?_map] at hk
      cases hk' : ps.toList[k]? with
      | none => rw [hk'] at hk; cases hk
      | some p =>
        obtain ⟨i', y⟩ := p
        rw [hk'] at hk
        simp at hk
        obtain ⟨rfl, rfl⟩ := hk
        obtain ⟨x, hq, hok⟩ := hg1 k i' y hk'
        obtain ⟨x', hq', hx'⟩ := hg2 k j v hv
        rw [hq] at hq'
        simp at hq'
        obtain ⟨rfl, rfl⟩ := hq'
        exact ⟨rfl, opdV hok (hr.mono (mem_tmpsL (List.mem_map.2 ⟨(i', x), List.mem_of_getElem? hq, rfl⟩))) hx'⟩)
    (RL.of_get (by simp) (fun k x u hx hu => by
      rw [List.getElem?_replicate] at hx hu
      split at hx
      · rename_i hk
        rw [if_pos hk] at hu
        cases hx; cases hu; exact hz1
      · cases hx)) hall (fun u hu c hc => by rw [(List.mem_replicate.1 hu).2] at hc; exact hz2 c hc) he
  have hxl : xs.length = n := by
    have hlen : ∀ (qs : List (Nat × V)) (ys zs : List V), fillS ys sz qs = some zs → zs.length = ys.length := by
      intro qs
      induction qs with
      | nil => intro ys zs h; simp [fillS] at h; rw [h]
      | cons q qs ih =>
        intro ys zs h
        obtain ⟨i, v⟩ := q
        have h' : (bif (v.cells.length == sz) && Nat.blt i ys.length then fillS (ys.set i v) sz qs else none) = some zs := by
          cases v <;> first | exact h | (simp [fillS] at h)
        have := ih _ _ (cond_some h').2
        simpa using this
    simpa using hlen _ _ _ he
  have hrun : (Instr.buildSlice t n (ps.map fun (i, x) => (i, a.eval x))).run P w = .ok (.slice (some ⟨w.heap.size, 0, none⟩) n n) (w.alloc (.cells (flat us').toArray e)) := by
    rw [flat_replicate h9 h5] at hf
    rw [← h4] at hf
    by_cases hn : n * sz = 0
    · have hn0 : n = 0 := by
        rcases Nat.mul_eq_zero.1 hn with h | h
        · exact h
        · exact absurd h h5
      subst hn0
      have hvs : vs = [] := by
        cases vs with
        | nil => rfl
        | cons q vs =>
          obtain ⟨i, v⟩ := q
          have h' : (bif (v.cells.length == sz) && Nat.blt i ([] : List V).length then fillS (([] : List V).set i v) sz vs else none) = some xs := by
            cases v <;> first | exact he | (simp [fillS] at he)
          have := (cond_some h').1
          simp [Nat.blt] at this
      subst hvs
      have hps : ps = #[] := by
        apply Array.ext'
        exact List.eq_nil_of_length_eq_zero (by rw [hl1, ← hl2]; rfl)
      subst hps
      have hfl : flat us' = [] := by
        have := hru.length
        simp [fillS] at he
        subst he
        simp at this
        subst this
        rfl
      rw [hfl]
      exact run_bsl0 h2 h3 w
    · have q1 : ¬ n * inf.size > 2 ^ 24 := by rw [h4]; omega
      have q2 : ¬ n * inf.size = 0 := by rw [h4]; exact hn
      have := run_buildSlice (P := P) w t e n (ps.map fun (i, x) => (i, a.eval x)) (flat us').toArray inf z h2 h3 h7 q1 q2
      exact this hf
  refine ⟨.slice (some ⟨w.heap.size, 0, none⟩) n n, know M w.heap.size (flat us'), w.alloc (.cells (flat us').toArray e), ?_, alloc_ext hm (flat us') e, ?_⟩
  · simp only [execOp, hop, Sem.run_bind, hrun, Result.andThen_ok]
    rfl
  · show R _ (.sl true ty ds) _
    have hxl : (ds.map ty.enc).length = n := by rw [List.length_map, decL_len hd, hxl]
    refine R_sl.2 ⟨some ⟨w.heap.size, 0, none⟩, n, by rw [hxl], by omega, fun _ => hxl.symm, ?_⟩
    refine .inr ⟨⟨w.heap.size, 0, none⟩, sz, us', rfl, by omega, RL.sub ((alloc_ext hm (flat us') e).sub hm) _ _ (hru.decL hd), laid_new hsz' hsu⟩

theorem bound_some {d : Int} {l : Nat} (h : bound d = some l) : 0 ≤ d ∧ d.toNat = l := by
  unfold bound at h
  split at h
  · rename_i h0; cases h; exact ⟨h0, rfl⟩
  · cases h

theorem sliceBound_run {k : IntKind} {d : Int} {y l : Nat} (h : bound d = some l) (hl : l ≤ y) (code : BoundsCode) (w : World) : (Instr.sliceBound (.int k d) y code).run P w = .ok l w := by
  obtain ⟨h0, rfl⟩ := bound_some h
  have h1 : d ≤ y := by omega
  simp [Instr.sliceBound, asIntOf, h0, h1]

/-- An operand that may be left out. -/
theorem opt_run {y : Option Operand} {x : Option A} {n : Option Int} (h : okAo y x = true) (hr : Reads M G a rd (tmpsO x)) (hi : optI rd x = some n) : (y = none ∧ n = none) ∨ ∃ y' k m, y = some y' ∧ n = some m ∧ a.eval y' = .int k m := by
  cases y with
  | none =>
    cases x with
    | none => simp [optI] at hi; exact .inl ⟨rfl, hi.symm⟩
    | some x => simp [okAo] at h
  | some y =>
    cases x with
    | none => simp [okAo] at h
    | some x =>
      simp only [okAo] at h
      have hv := opd h hr
      simp only [optI] at hi
      split at hi
      · rename_i m hd
        cases hi
        unfold intD at hd
        split at hd
        · rename_i k q hq
          cases hd
          rw [hq] at hv
          exact .inr ⟨y, k, m, rfl, rfl, RD_int hv⟩
        · cases hd
      · cases hi

theorem slice_run {t e : TypeId} {sz : Nat} {ao : Option Addr} {len cap : Nat} {lo hi mx : Option Value} {l h m : Nat} (h2 : P.underlying t = some (.slice e)) (h3 : tySize P e = some sz) (w : World)
    (hb : (Instr.sliceBounds true len cap lo hi mx).run P w = .ok (l, h, m) w) : (Instr.slice t (.slice ao len cap) lo hi mx).run P w = .ok (.slice (if m = l then ao else ao.map (·.add (l * sz))) (h - l) (m - l)) w := by
  simp [Instr.slice, run_underlying h2, hb, size_run h3]

theorem g_slc (hm : Ok M w) {t e : TypeId} {sz : Nat} {x : A} {x' : Operand} {lo hi mx : Option A} {lo' hi' mx' : Option Operand} {l h m : Option Int} {fl : Bool} {ty : Ty} {xs : List ty.D} {q : List ty.D} (hop : o.op = .slice t x' lo' hi' mx') (h1 : okA x' x = true)
    (h2 : okAo lo' lo = true) (h3 : okAo hi' hi = true) (h4 : okAo mx' mx = true) (h5 : P.underlying t = some (.slice e)) (h6 : tySize P e = some sz) (h7 : sz ≠ 0)
    (hr : Reads M G a rd (x.tmps ++ tmpsO lo ++ tmpsO hi ++ tmpsO mx)) (hl : optI rd lo = some l) (hh : optI rd hi = some h) (hmx : optI rd mx = some m) (hx : R M (.sl fl ty xs) (a.eval x')) (hts : ty.csz = sz) (he : std.slc xs l h m = some q) : Gives P M G w (.p (.sl m.isSome ty q)) (execOp a.eval o) := by
  have hlo := opt_run h2 (hr.mono (fun t ht => by simp [ht])) hl
  have hhi := opt_run h3 (hr.mono (fun t ht => by simp [ht])) hh
  have hmm := opt_run h4 (hr.mono (fun t ht => by simp [ht])) hmx
  obtain ⟨ao, cap, hv, hcap, hfull, hor⟩ := R_sl.1 hx
  simp only [std, sliceV] at he
  rw [List.length_map] at hv hcap hfull
  have hsized : ∀ y ∈ xs.map ty.enc, y.cells.length = sz := by
    intro y hy
    obtain ⟨d, _, rfl⟩ := List.mem_map.1 hy
    rw [Ty.enc_cells, hts]
  have key : ∀ (L H Mx : Nat) (fl' : Bool), (Instr.sliceBounds true xs.length cap (lo'.map a.eval) (hi'.map a.eval) (mx'.map a.eval)).run P w = .ok (L, H, Mx) w → L ≤ H → H ≤ xs.length → H ≤ Mx → (fl' = true → Mx = H) →
      Gives P M G w (.p (.sl fl' ty ((xs.take H).drop L))) (execOp a.eval o) := by
    intro L H Mx fl' hb hLH hHx hHM hf
    have hlen : ((xs.take H).drop L).length = H - L := by simp; omega
    refine g_same hm (v := .slice (if Mx = L then ao else ao.map (·.add (L * sz))) (H - L) (Mx - L)) ?_ ?_
    · have := slice_run (ao := ao) h5 h6 w hb
      simp only [execOp, hop, Instr.sliceAt, Sem.run_bind, run_underlying h5, Result.andThen_ok, hv, this]
      rfl
    · show R M (.sl fl' ty _) _
      refine R_sl.2 ⟨_, Mx - L, by rw [List.length_map, hlen], by rw [List.length_map, hlen]; omega, fun h => by rw [List.length_map, hlen, hf h], ?_⟩
      by_cases he : (xs.take H).drop L = []
      · exact .inl (by rw [he]; rfl)
      · have hpos : L < H := by
          rcases Nat.lt_or_ge L H with h | h
          · exact h
          · exact absurd (List.eq_nil_of_length_eq_zero (by rw [hlen]; omega)) he
        rw [List.map_drop, List.map_take]
        rw [← List.length_map (as := xs) ty.enc] at hHx
        clear hv hcap hfull hx he hlen
        generalize xs.map ty.enc = xs at hor hsized hHx ⊢
        rcases hor with rfl | ⟨ad, sz', us, rfl, hz', hrl, hlaid⟩
        · simp at hHx; omega
        · have hszz : sz' = sz := by
            have hx0 : xs[0]? = some (xs[0]'(by omega)) := List.getElem?_eq_getElem _
            obtain ⟨u, hu, hru⟩ := hrl.get hx0
            obtain ⟨hus, hsg, _⟩ := hlaid 0 u hu
            have hnt : ∀ vs, xs[0]'(by omega) ≠ .tup vs := by
              intro vs hvs
              rw [hvs, R] at hru
              obtain ⟨us', rfl, _⟩ := hru
              have := (hsg (.tuple us'.toArray) (by simp [Value.cells])).2
              simp [Value.oneCell'] at this
            have := (R_cells hru hnt).1.length
            rw [hsized _ (List.getElem_mem _)] at this
            rw [← hus, ← this]; simp
          subst hszz
          refine .inr ⟨ad.add (L * sz'), sz', (us.take H).drop L, by rw [if_neg (by omega)]; rfl, hz', (hrl.take H).drop L, ?_⟩
          intro i u hu
          rw [List.getElem?_drop, List.getElem?_take] at hu
          split at hu
          · obtain ⟨q1, q2, q3⟩ := hlaid _ _ hu
            refine ⟨q1, q2, fun j hj => ?_⟩
            rw [add_add, ← q3 j hj]
            congr 2
            rw [Nat.add_mul]; omega
          · cases hu
  split at he
  · rename_i L H hL hH
    split at he
    · rename_i hc
      cases he
      rcases hmm with ⟨rfl, _⟩ | ⟨_, _, _, _, hq, _⟩
      · refine key L H cap false ?_ hc.1 hc.2 (by omega) (fun hf => by cases hf)
        rcases hlo with ⟨rfl, rfl⟩ | ⟨yl, kl, ml, rfl, rfl, hel⟩ <;> rcases hhi with ⟨rfl, rfl⟩ | ⟨yh, kh, mh, rfl, rfl, heh⟩ <;> simp only [boundOr, Option.some.injEq] at hL hH
        · subst hL; subst hH; simp [Instr.sliceBounds]
        · subst hL
          have := sliceBound_run (P := P) (k := kh) hH (show H ≤ cap by omega) .sliceAcap w
          simp [Instr.sliceBounds, heh, this]
        · subst hH
          have := sliceBound_run (P := P) (k := kl) hL (show L ≤ xs.length by omega) .sliceB w
          simp [Instr.sliceBounds, hel, this]
        · have e1 := sliceBound_run (P := P) (k := kh) hH (show H ≤ cap by omega) .sliceAcap w
          have e2 := sliceBound_run (P := P) (k := kl) hL hc.1 .sliceB w
          simp [Instr.sliceBounds, heh, hel, e1, e2]
      · cases hq
    · cases he
  · rename_i L H mm hL hH
    split at he
    · cases he
    · rename_i Mx hMx
      split at he
      · rename_i hc
        cases he
        obtain ⟨hsome, hc1, hc2, hc3⟩ := hc
        rcases hmm with ⟨_, hq⟩ | ⟨ym, km, mm', rfl, hq, hem⟩
        · cases hq
        · cases hq
          subst hc2
          refine key L H H true ?_ hc1 hc3 (Nat.le_refl _) (fun _ => rfl)
          have e0 := sliceBound_run (P := P) (k := km) hMx (show H ≤ cap by omega) .slice3Acap w
          rcases hhi with ⟨rfl, rfl⟩ | ⟨yh, kh, mh, rfl, rfl, heh⟩
          · simp at hsome
          · simp only [boundOr] at hH
            have e1 := sliceBound_run (P := P) (k := kh) hH (Nat.le_refl H) .slice3B w
            rcases hlo with ⟨rfl, rfl⟩ | ⟨yl, kl, ml, rfl, rfl, hel⟩ <;> simp only [boundOr, Option.some.injEq] at hL
            · subst hL; simp [Instr.sliceBounds, hem, heh, e0, e1]
            · have e2 := sliceBound_run (P := P) (k := kl) hL hc1 .slice3C w
              simp [Instr.sliceBounds, hem, heh, hel, e0, e1, e2]
      · cases he
  · cases he

/-- A slice of a slice of a row. -/
theorem g_slcm (hm : Ok M w) {t e : TypeId} {sz id : Nat} {lo0 len : Int} {x : A} {x' : Operand} {lo hi : Option A} {lo' hi' : Option Operand} {l h : Option Int} {q : Int × Int} (hop : o.op = .slice t x' lo' hi' none) (h1 : okA x' x = true)
    (h2 : okAo lo' lo = true) (h3 : okAo hi' hi = true) (h5 : P.underlying t = some (.slice e)) (h6 : tySize P e = some sz)
    (hr : Reads M G a rd (x.tmps ++ tmpsO lo ++ tmpsO hi)) (hl : optI rd lo = some l) (hh : optI rd hi = some h) (hx : rd x = .msl id sz lo0 len) (he : std.mslc len l h = some q) : Gives P M G w (.msl id sz (std.ia lo0 q.1) (std.is q.2 q.1)) (execOp a.eval o) := by
  have hlo := opt_run h2 (hr.mono (fun t ht => by simp [ht])) hl
  have hhi := opt_run h3 (hr.mono (fun t ht => by simp [ht])) hh
  have hxv := opd h1 (hr.mono (fun t ht => by simp [ht]))
  rw [hx] at hxv
  obtain ⟨ao, n, cap, hv, rfl, hcap, hlo0, hb⟩ := hxv
  simp only [std] at he
  split at he
  · rename_i hc
    obtain ⟨c1, c2, c3⟩ := hc
    cases he
    obtain ⟨L, hL⟩ : ∃ L : Nat, l.getD 0 = L := ⟨(l.getD 0).toNat, by omega⟩
    obtain ⟨H, hH⟩ : ∃ H : Nat, h.getD n = H := ⟨(h.getD n).toNat, by omega⟩
    rw [hL, hH] at c2
    rw [hH] at c3
    have hLH : L ≤ H := by omega
    have hHn : H ≤ n := by omega
    have hb' : (Instr.sliceBounds true n cap (lo'.map a.eval) (hi'.map a.eval) none).run P w = .ok (L, H, cap) w := by
      rcases hlo with ⟨rfl, rfl⟩ | ⟨yl, kl, ml, rfl, rfl, hel⟩ <;> rcases hhi with ⟨rfl, rfl⟩ | ⟨yh, kh, mh, rfl, rfl, heh⟩ <;> simp only [Option.getD_none, Option.getD_some] at hL hH
      · obtain rfl : L = 0 := by omega
        obtain rfl : H = n := by omega
        simp [Instr.sliceBounds]
      · obtain rfl : L = 0 := by omega
        have := sliceBound_run (P := P) (k := kh) (d := mh) (l := H) (by unfold bound; rw [if_pos (by omega)]; congr 1; omega) (show H ≤ cap by omega) .sliceAcap w
        simp [Instr.sliceBounds, heh, this]
      · obtain rfl : H = n := by omega
        have := sliceBound_run (P := P) (k := kl) (d := ml) (l := L) (by unfold bound; rw [if_pos (by omega)]; congr 1; omega) (show L ≤ H by omega) .sliceB w
        simp [Instr.sliceBounds, hel, this]
      · have e1 := sliceBound_run (P := P) (k := kh) (d := mh) (l := H) (by unfold bound; rw [if_pos (by omega)]; congr 1; omega) (show H ≤ cap by omega) .sliceAcap w
        have e2 := sliceBound_run (P := P) (k := kl) (d := ml) (l := L) (by unfold bound; rw [if_pos (by omega)]; congr 1; omega) hLH .sliceB w
        simp [Instr.sliceBounds, heh, hel, e1, e2]
    refine g_same hm (v := .slice (if cap = L then ao else ao.map (·.add (L * sz))) (H - L) (cap - L)) ?_ ⟨_, H - L, cap - L, rfl, ?_, by omega, ?_, fun hp => ?_⟩
    · have := slice_run (ao := ao) h5 h6 w hb'
      simp only [execOp, hop, Instr.sliceAt, Sem.run_bind, run_underlying h5, Result.andThen_ok, hv]
      simp only [Option.map_none] at this ⊢
      rw [this]
      rfl
    · rw [hL, hH]; simp only [std]; omega
    · rw [hL]; simp only [std]; omega
    · obtain ⟨b, hb1, rfl⟩ := hb (by omega)
      refine ⟨b, hb1, ?_⟩
      rw [if_neg (by omega), hL]
      have : (std.ia lo0 (L : Int)).toNat = lo0.toNat + L := by simp only [std]; omega
      rw [this, Nat.add_mul]
      show some (Addr.add ⟨b, lo0.toNat * sz, none⟩ (L * sz)) = _
      rw [add_plain']
  · cases he
end

end Go.Evl
