/-
  A value semantics for the program's code, part 12: rows that may be appended to.
  Conditions: none; this text holds definitions and lemmas of their own.
-/
import Derived.Test.YtbcihiehcekheaaDoorEv11
import Derived.Deep.AppendSrc
namespace Go.Evl
open Go Go.RowKit
set_option linter.unusedVariables false
set_option linter.unusedSimpArgs false

/-! ### Lists of pairs -/
section
variable {α β : Type}
theorem get_put (l : List (Nat × α)) (i j : Nat) (x : α) : get (put l i x) j = bif i == j then some x else get l j := by
  induction l with
  | nil => simp [put, get]
  | cons h t ih =>
    obtain ⟨k, v⟩ := h
    simp only [put, get, Bool.cond_eq_ite, beq_iff_eq] at ih ⊢
    by_cases hk : k = i
    · subst hk
      rw [if_pos rfl]
      by_cases hj : k = j <;> simp [get, Bool.cond_eq_ite, hj]
    · rw [if_neg hk]
      by_cases hkj : k = j
      · subst hkj
        rw [if_neg (fun e => hk e.symm)]
        simp [get]
      · simp [get, Bool.cond_eq_ite, hkj, ih]
theorem get_put_same (l : List (Nat × α)) (i : Nat) (x : α) : get (put l i x) i = some x := by simp [get_put]
theorem get_put_ne (l : List (Nat × α)) {i j : Nat} (x : α) (h : j ≠ i) : get (put l i x) j = get l j := by
  rw [get_put, Bool.cond_eq_ite, if_neg]
  simp; exact fun e => h e.symm
theorem get_del (l : List (Nat × α)) (i j : Nat) : get (del l i) j = bif i == j then none else get l j := by
  induction l with
  | nil => simp [del, get]
  | cons h t ih =>
    obtain ⟨k, v⟩ := h
    simp only [del, get, Bool.cond_eq_ite, beq_iff_eq] at ih ⊢
    by_cases hk : k = i
    · subst hk
      rw [if_pos rfl, ih]
      by_cases hj : k = j <;> simp [hj]
    · rw [if_neg hk]
      by_cases hkj : k = j
      · subst hkj
        rw [if_neg (fun e => hk e.symm)]
        simp [get]
      · simp [get, Bool.cond_eq_ite, hkj, ih]
theorem get_del_some {l : List (Nat × α)} {i j : Nat} {x : α} (h : get (del l i) j = some x) : j ≠ i ∧ get l j = some x := by
  rw [get_del, Bool.cond_eq_ite] at h
  split at h
  · cases h
  · rename_i hj
    exact ⟨fun e => hj (by simp [e]), h⟩
theorem get_mapV (f : α → β) (l : List (Nat × α)) (j : Nat) : get (mapV f l) j = (get l j).map f := by
  induction l with
  | nil => rfl
  | cons h t ih =>
    obtain ⟨k, v⟩ := h
    simp only [mapV, List.map_cons, get, Bool.cond_eq_ite, beq_iff_eq] at ih ⊢
    by_cases hk : k = j
    · subst hk; simp
    · simp [hk, ih]
theorem get_mapV_some {f : α → β} {l : List (Nat × α)} {j : Nat} {y : β} (h : get (mapV f l) j = some y) : ∃ x, get l j = some x ∧ f x = y := by
  rw [get_mapV] at h
  simpa [Option.map_eq_some_iff] using h
theorem get_cons_same (k : Nat) (v : α) (l : List (Nat × α)) : get ((k, v) :: l) k = some v := by simp [get]
theorem get_cons_ne {k j : Nat} (v : α) (l : List (Nat × α)) (h : j ≠ k) : get ((k, v) :: l) j = get l j := by
  simp only [get]
  rw [Bool.cond_eq_ite, if_neg]
  simp; exact fun e => h e.symm
end

/-! ### What lies in a row -/
theorem Laid.known {M : Mem} {ad : Addr} {sz : Nat} {us : List Value} (h : Laid M ad sz us) (h0 : 0 < sz) {j : Nat} {c : Value} (hj : (flat us)[j]? = some c) : M (ad.add j) = some c := by
  have hs : ∀ u ∈ us, u.cells.size = sz := fun u hu => by
    obtain ⟨i, hi⟩ := List.mem_iff_getElem?.1 hu
    exact (h i u hi).1
  have hlt : j < us.length * sz := by
    have := (List.getElem?_eq_some_iff.1 hj).1
    rwa [flat_length hs] at this
  have hi : j / sz < us.length := Nat.div_lt_of_lt_mul (by rwa [Nat.mul_comm])
  have hmod : j % sz < sz := Nat.mod_lt _ h0
  have hu : us[j / sz]? = some (us[j / sz]) := List.getElem?_eq_getElem hi
  have e : j / sz * sz + j % sz = j := by rw [Nat.mul_comm]; exact Nat.div_add_mod j sz
  have h1 := (h _ _ hu).2.2 (j % sz) hmod
  have h2 := flat_get hs hu (j % sz) hmod
  rw [e] at h1 h2
  rw [h1, ← h2, hj]
theorem Laid.one {M : Mem} {ad : Addr} {sz : Nat} {us : List Value} (h : Laid M ad sz us) : ∀ c ∈ flat us, single c := by
  intro c hc
  obtain ⟨u, hu, hcu⟩ := List.mem_flatMap.1 hc
  obtain ⟨i, hi⟩ := List.mem_iff_getElem?.1 hu
  exact (h i u hi).2.1 c hcu
theorem Laid.sizes {M : Mem} {ad : Addr} {sz : Nat} {us : List Value} (h : Laid M ad sz us) : ∀ u ∈ us, u.cells.size = sz := fun u hu => by
  obtain ⟨i, hi⟩ := List.mem_iff_getElem?.1 hu
  exact (h i u hi).1
/-- The size of the elements, said of the contents. -/
def sizedL (sz : Nat) (xs : List V) : Bool := xs.all fun y => y.cells.length == sz
theorem sizedL_enc {t : Ty} {sz : Nat} (h : t.csz = sz) (xs : List t.D) : sizedL sz (xs.map t.enc) = true := by
  unfold sizedL
  rw [List.all_eq_true]
  intro y hy
  obtain ⟨d, _, rfl⟩ := List.mem_map.1 hy
  rw [Ty.enc_cells, h]; simp
theorem Laid.size_eq {M : Mem} {ad : Addr} {sz sz' : Nat} {us : List Value} {xs : List V} (h : Laid M ad sz' us) (hr : RL M xs us) (hs : sizedL sz xs = true) (hne : xs ≠ []) : sz' = sz := by
  obtain ⟨x, xs', rfl⟩ := List.exists_cons_of_ne_nil hne
  rw [RL] at hr
  obtain ⟨u, us', rfl, hru, _⟩ := hr
  obtain ⟨hus, hsg, _⟩ := h 0 u rfl
  have hnt : ∀ vs, x ≠ .tup vs := by
    rintro vs rfl
    rw [R] at hru
    obtain ⟨us', rfl, _⟩ := hru
    have := (hsg (.tuple us'.toArray) (by simp [Value.cells])).2
    simp [Value.oneCell'] at this
  have hl := (R_cells hru hnt).1.length
  have : x.cells.length = sz := by
    unfold sizedL at hs
    simpa using List.all_eq_true.1 hs x (by simp)
  rw [this] at hl
  rw [← hus, ← hl]; simp

/-- A slice that may be appended to: it is full, or it lies in a block of the call's own that nobody else may turn. -/
def RowAt (k : Option TypeId) (M : Mem) (B : Nat) (w : World) (own : Nat → Prop) (sv : Value) (us : List Value) (sz : Nat) : Prop :=
  ∃ (ao : Option Addr) (cap : Nat), sv = .slice ao us.length cap ∧
    ((cap = us.length ∧ (us = [] ∨ ∃ ad, ao = some ad ∧ 0 < sz ∧ Laid M ad sz us ∧ k = none)) ∨
     (us ≠ [] ∧ ∃ b cur t, ao = some ⟨b, 0, none⟩ ∧ B ≤ b ∧ own b ∧ w.heap[b]? = some (.cells cur t (0, 0)) ∧ us.length ≤ cap ∧ cur.size = cap * sz ∧ 0 < sz ∧ Laid M ⟨b, 0, none⟩ sz us ∧
       (∀ ad : Addr, ad.block = b → (ad.spot = none → us.length * sz ≤ ad.off) → M ad = none) ∧ ∀ e, k = some e → t = e))

theorem RowAt.upd' {k : Option TypeId} {M M' : Mem} {B : Nat} {w w' : World} {own own' : Nat → Prop} {sv : Value} {us : List Value} {sz : Nat} (h : RowAt k M B w own sv us sz) (hs : Sub M M')
    (hb : ∀ b, own b → b < w.heap.size → (∃ cs t fr, w.heap[b]? = some (.cells cs t fr)) → w'.heap[b]? = w.heap[b]? ∧ own' b ∧ ∀ a : Addr, a.block = b → M' a = M a) : RowAt k M' B w' own' sv us sz := by
  obtain ⟨ao, cap, h1, h2⟩ := h
  refine ⟨ao, cap, h1, ?_⟩
  rcases h2 with ⟨h2, h3⟩ | ⟨h2, b, cur, t, h3, h4, h5, h6, h7, h8, h9, h10, h11⟩
  · refine .inl ⟨h2, ?_⟩
    rcases h3 with h3 | ⟨ad, h3, h4, h5, h6⟩
    · exact .inl h3
    · exact .inr ⟨ad, h3, h4, h5.sub hs, h6⟩
  · obtain ⟨k1, k2, k3⟩ := hb b h5 (lt_of_heap h6) ⟨_, _, _, h6⟩
    exact .inr ⟨h2, b, cur, t, h3, h4, k2, k1.trans h6, h7, h8, h9, h10.sub hs, fun ad ha ho => (k3 ad ha).trans (h11.1 ad ha ho), h11.2⟩
theorem RowAt.upd {k : Option TypeId} {M M' : Mem} {B : Nat} {w w' : World} {own own' : Nat → Prop} {sv : Value} {us : List Value} {sz : Nat} (h : RowAt k M B w own sv us sz) (hs : Sub M M')
    (hb : ∀ b, own b → b < w.heap.size → w'.heap[b]? = w.heap[b]? ∧ own' b ∧ ∀ a : Addr, a.block = b → M' a = M a) : RowAt k M' B w' own' sv us sz :=
  h.upd' hs (fun b ho hlt _ => hb b ho hlt)

/-- What is known of a row when its cells are known. -/
theorem know_sub {M : Mem} {b sz : Nat} {us vs : List Value} (h : ∀ ad : Addr, ad.block = b → (ad.spot = none → us.length * sz ≤ ad.off) → M ad = none) (hl : Laid M ⟨b, 0, none⟩ sz us) (h0 : 0 < sz) : Sub M (know M b (flat (us ++ vs))) := by
  refine ⟨fun a v ha => ?_, fun _ _ _ e => e⟩
  simp only [know]
  split
  · rename_i hc
    rcases Nat.lt_or_ge a.off (us.length * sz) with ho | ho
    · have hlen : (flat us).length = us.length * sz := flat_length hl.sizes
      have hg : (flat us)[a.off]? = some ((flat us)[a.off]'(by omega)) := List.getElem?_eq_getElem _
      have := hl.known h0 hg
      rw [add_plain] at this
      have ea : (⟨b, a.off, none⟩ : Addr) = a := by
        cases a with
        | mk b' o s => simp at hc ⊢; exact ⟨hc.1.symm, hc.2.symm⟩
      rw [ea, ha] at this
      rw [flat_append, List.getElem?_append_left (by omega), hg, ← this]
    · rw [h a hc.1 (fun _ => ho)] at ha; cases ha
  · exact ha

section
variable {P : Program} {M : Mem} {w : World}

/-- The second argument of an append. -/
theorem src_of {x : Value} {sz : Nat} {fl : Bool} {ys : List V} {tx e' : TypeId} (hm : Ok M w) (hk : P.underlying tx = some (.slice e')) (h0 : 0 < sz) (hr : RSl M fl ys x) (hs : sizedL sz ys = true) :
    ∃ vs, RL M ys vs ∧ (∀ u ∈ vs, u.cells.size = sz) ∧ (∀ c ∈ flat vs, single c) ∧ Src P sz tx x ys.length (flat vs) w := by
  obtain ⟨ao, cap, rfl, hcap, _, hor⟩ := hr
  have nil : ys = [] → ∃ vs, RL M ys vs ∧ (∀ u ∈ vs, u.cells.size = sz) ∧ (∀ c ∈ flat vs, single c) ∧ Src P sz tx (.slice ao ys.length cap) ys.length (flat vs) w := by
    rintro rfl
    refine ⟨[], by rw [RL], by simp, by simp [flat], ?_⟩
    cases ao with
    | none => exact Src.ofNil w hk cap
    | some ad => exact Src.ofSlice w hk ad 0 cap [] (by simp) (by simp) (by simp)
  rcases hor with h | ⟨ad, sz', vs, rfl, hz, hrl, hl⟩
  · exact nil h
  · by_cases hne : ys = []
    · exact nil hne
    · have e := hl.size_eq hrl hs hne
      subst e
      refine ⟨vs, hrl, hl.sizes, hl.one, ?_⟩
      exact Src.ofSlice w hk ad ys.length cap (flat vs) (by rw [flat_length hl.sizes, hrl.length]) (fun j u hj => hm.cell _ _ (hl.known h0 hj)) (fun u hu => (hl.one u hu).2)

theorem flat_sized {us vs : List Value} {sz : Nat} (hu : ∀ u ∈ us, u.cells.size = sz) (hv : ∀ u ∈ vs, u.cells.size = sz) : ∀ u ∈ us ++ vs, u.cells.size = sz := by
  intro u h
  rcases List.mem_append.1 h with h | h
  · exact hu u h
  · exact hv u h

/-- append: what comes of it, wherever the row lies. -/
theorem app_core' {kk : Option TypeId} {B : Nat} {own : Nat → Prop} {sv x : Value} {us : List Value} {sz sz' bytes : Nat} {xs ys : List V} {vs : List Value} {t t' ty e : TypeId} {i : TypeInfo} {z : Value} (hkk : ∀ q, kk = some q → e = q) (hm : Ok M w) (hB : B ≤ w.heap.size)
    (h1 : P.underlying t = some (.slice e)) (h2 : P.underlying t' = some .string ∨ ∃ e', P.underlying t' = some (.slice e')) (h3 : P.info? e = some i) (h4 : i.size = sz) (h5 : i.bytes = bytes) (h6 : sz ≠ 0) (h7 : bytes ≠ 0) (h8 : i.zero = some z) (h9 : z.cells.size = sz)
    (hrow : RowAt kk M B w own sv us sz') (hxs : RL M xs us) (hsz : sizedL sz xs = true) (hrv : RL M ys vs) (hvs : ∀ u ∈ vs, u.cells.size = sz) (hone : ∀ c ∈ flat vs, single c) (hsrc : Src P sz t' x ys.length (flat vs) w) (hfit : std.fits bytes xs ys = true) :
    ∃ v' M' w' vs sz'', (Builtin.append_ #[t, t'] ty #[sv, x]).run P w = .ok v' w' ∧ RL M ys vs ∧ RowAt kk M' B w' (fun b => own b ∨ b = w.heap.size) v' (us ++ vs) sz'' ∧ Sub M M' ∧ M'.refs = M.refs ∧ Known M' w' ∧ Below B w w' ∧
      (∀ a : Addr, a.block < w.heap.size → ¬ (own a.block ∧ B ≤ a.block) → M' a = M a) ∧ (∀ b, b < w.heap.size → ¬ (own b ∧ B ≤ b) → w'.heap[b]? = w.heap[b]?) ∧ ∀ (b : Nat) (o : Obj), w.heap[b]? = some o → (∀ cs t fr, o ≠ .cells cs t fr) → w'.heap[b]? = some o := by
  have h0 : 0 < sz := Nat.pos_of_ne_zero h6
  have hfit : (xs.length + ys.length) * bytes ≤ 140737488355328 := by simpa [std] using hfit
  have hlx := hxs.length
  have hly := hrv.length
  subst h4; subst h5
  have hpos : 0 < i.bytes := Nat.pos_of_ne_zero h7
  have hle : xs.length + ys.length ≤ 140737488355328 := Nat.le_trans (Nat.le_mul_of_pos_right _ hpos) hfit
  -- the arm that grows
  have grow : ∀ (ao : Option Addr) (cap : Nat), sv = .slice ao us.length cap → (us = [] ∨ ∃ ad, ao = some ad ∧ Laid M ad i.size us) → cap < us.length + ys.length →
      ∃ v' M' w' vs sz'', (Builtin.append_ #[t, t'] ty #[sv, x]).run P w = .ok v' w' ∧ RL M ys vs ∧ RowAt kk M' B w' (fun b => own b ∨ b = w.heap.size) v' (us ++ vs) sz'' ∧ Sub M M' ∧ M'.refs = M.refs ∧ Known M' w' ∧ Below B w w' ∧
        (∀ a : Addr, a.block < w.heap.size → ¬ (own a.block ∧ B ≤ a.block) → M' a = M a) ∧ (∀ b, b < w.heap.size → ¬ (own b ∧ B ≤ b) → w'.heap[b]? = w.heap[b]?) ∧ ∀ (b : Nat) (o : Obj), w.heap[b]? = some o → (∀ cs t fr, o ≠ .cells cs t fr) → w'.heap[b]? = some o := by
    rintro ao cap rfl hl hcap
    have hus : ∀ u ∈ us, u.cells.size = i.size := by
      rcases hl with rfl | ⟨ad, _, hl⟩
      · simp
      · exact hl.sizes
    have hsg : ∀ u ∈ us ++ vs, ∀ c ∈ u.cells.toList, single c := by
      intro u hu c hc
      rcases List.mem_append.1 hu with hu | hu
      · rcases hl with rfl | ⟨ad, _, hl⟩
        · simp at hu
        · exact hl.one c (List.mem_flatMap.2 ⟨u, hu, hc⟩)
      · exact hone c (List.mem_flatMap.2 ⟨u, hu, hc⟩)
    have hold : (Builtin.firstCells i.size us.length (.slice ao us.length cap)).run P w.drew = .ok (flat us).toArray w.drew := by
      rcases hl with rfl | ⟨ad, rfl, hl⟩
      · cases ao with
        | none => exact run_firstCells_none w.drew i.size 0 0 cap
        | some ad => exact run_firstCells_some w.drew i.size 0 ad 0 cap [] (by simp) (by simp)
      · exact run_firstCells_some w.drew i.size us.length ad us.length cap (flat us) (by rw [flat_length hus]) (fun j u hj => by simpa using hm.cell _ _ (hl.known h0 hj))
    have hrun := run_append_grow_src w t t' ty e i z h1 h3 h8 ao us.length cap (flat us) hold x ys.length (flat vs) hsrc hcap (by omega) (growslice_fits hcap (by rw [hlx]; exact hfit))
    have hg := grownCap_ge w (us.length + ys.length) cap e
    have hlen : us.length + ys.length = (us ++ vs).length := by simp [hly]
    have hsv : ∀ u ∈ us ++ vs, u.cells.size = i.size := flat_sized hus hvs
    have hfl : (flat (us ++ vs)).length = (us ++ vs).length * i.size := flat_length hsv
    refine ⟨_, know M w.heap.size (flat (us ++ vs)), _, vs, i.size, hrun, hrv, ?_, ?_, rfl, ⟨?_, ?_, fun a k b c e => Nat.lt_of_lt_of_le (hm.oldR a k b c e) (by rw [World.size_alloc]; show w.heap.size ≤ w.heap.size + 1; omega)⟩, ?_, ?_, ?_, fun b o hb _ => (heap_alloc_old w.drew _ b (lt_of_heap hb)).trans hb⟩
    · refine ⟨_, _, by rw [← hlen], .inr ⟨?_, w.heap.size, _, e, rfl, hB, .inr rfl, heap_alloc_new w.drew _, by rw [← hlen]; exact hg, ?_, h0, laid_new hsv hsg, ?_⟩⟩
      · intro he
        have : (us ++ vs).length = 0 := by rw [he]; rfl
        omega
      · simp only [Array.size_append, List.size_toArray, size_zeroCells, h9, ← flat_append, hfl, ← hlen, ← Nat.add_mul]
        congr 1
        omega
      · refine ⟨fun ad ha ho => ?_, fun q hq => hkk q hq⟩
        simp only [know]
        split
        · rename_i hc
          exact List.getElem?_eq_none (by rw [hfl]; exact ho hc.2)
        · cases hM : M ad with
          | none => rfl
          | some v => have := hm.old ad v hM; omega
    · refine ⟨fun a v ha => ?_, fun _ _ _ e => e⟩
      have := hm.old a v ha
      simp only [know]
      rw [if_neg (by omega)]; exact ha
    · intro a v ha
      simp only [know] at ha
      split at ha
      · rename_i hc
        have hh := heap_alloc_new w.drew (.cells ((flat us ++ flat vs).toArray ++ Builtin.zeroCells z.cells (grownCap w (us.length + ys.length) cap e - (us.length + ys.length))) e)
        unfold World.cell?
        rw [hc.1]
        rw [show w.drew.heap.size = w.heap.size from rfl] at hh
        rw [hh]
        have hlt := (List.getElem?_eq_some_iff.1 ha).1
        rw [flat_append] at ha hlt
        simp only [hc.2]
        rw [Array.getElem?_append_left (by simpa using hlt)]
        simpa using ha
      · have hold := hm.old a v ha
        have hc := hm.cell a v ha
        have hb := heap_alloc_old w.drew (.cells ((flat us ++ flat vs).toArray ++ Builtin.zeroCells z.cells (grownCap w (us.length + ys.length) cap e - (us.length + ys.length))) e) a.block hold
        unfold World.cell? at hc ⊢
        rw [hb]; exact hc
    · intro a v ha
      rw [World.size_alloc]
      show a.block < w.heap.size + 1
      simp only [know] at ha
      split at ha
      · omega
      · have := hm.old a v ha; omega
    · exact ((Below.refl B w).drew).alloc hB _
    · intro a ha _
      simp only [know]
      rw [if_neg (by omega)]
    · intro b hb _
      exact heap_alloc_old w.drew _ b hb
  obtain ⟨ao, cap, rfl, hor⟩ := hrow
  rcases hor with ⟨rfl, hl⟩ | ⟨hne, b, cur, ty', rfl, hBb, hown, hheap, hcap, hcs, hz', hl, hno⟩
  · by_cases hy0 : ys.length = 0
    · obtain rfl : ys = [] := List.eq_nil_of_length_eq_zero hy0
      obtain rfl : vs = [] := List.eq_nil_of_length_eq_zero (by rw [hly]; rfl)
      have hsame : (Builtin.append_ #[t, t'] ty #[.slice ao us.length us.length, x]).run P w = .ok (.slice ao us.length us.length) w := by
        have hc := hsrc.cells
        have hn := hsrc.len
        simp only [List.length_nil] at hc hn
        rcases h2 with h2 | ⟨e', h2⟩ <;> rcases ao with _ | ad
        · simp [Builtin.append_, run_underlying h1, run_underlying h2, sizeOf, typeInfo, h3, hn, hc]
        · simp [Builtin.append_, run_underlying h1, run_underlying h2, sizeOf, typeInfo, h3, hn, hc, Go.Evl.flat, storeCells]
        · simp [Builtin.append_, run_underlying h1, run_underlying h2, sizeOf, typeInfo, h3, hn, hc]
        · simp [Builtin.append_, run_underlying h1, run_underlying h2, sizeOf, typeInfo, h3, hn, hc, Go.Evl.flat, storeCells]
      refine ⟨_, M, w, [], sz', hsame, hrv, ?_, Sub.refl M, rfl, hm.toKnown, Below.refl B w, fun _ _ _ => rfl, fun _ _ _ => rfl, fun _ _ h _ => h⟩
      rw [List.append_nil]
      exact ⟨ao, us.length, rfl, .inl ⟨rfl, hl⟩⟩
    · refine grow ao us.length rfl ?_ (by omega)
      rcases hl with hl | ⟨ad, rfl, h, hl, _⟩
      · exact .inl hl
      · by_cases hu : us = []
        · exact .inl hu
        · have hx0 : xs ≠ [] := by
            rintro rfl
            exact hu (List.eq_nil_of_length_eq_zero (by rw [hlx]; rfl))
          have e := hl.size_eq hxs hsz hx0
          subst e
          exact .inr ⟨ad, rfl, hl⟩
  · have hx0 : xs ≠ [] := by
      rintro rfl
      exact hne (List.eq_nil_of_length_eq_zero (by rw [hlx]; rfl))
    have hee := hl.size_eq hxs hsz hx0
    subst hee
    by_cases hroom : us.length + ys.length ≤ cap
    · have hfl : (flat vs).length = ys.length * i.size := by rw [flat_length hvs, hly]
      have hcur : us.length * i.size + (flat vs).length ≤ cur.size := by
        rw [hfl, hcs, ← Nat.add_mul]; exact Nat.mul_le_mul_right _ hroom
      have hcell : ∀ j, w.cell? ⟨b, j, none⟩ = cur[j]? := fun j => by simp [World.cell?, hheap]
      have hrun := run_append_room_src w t t' ty e i h1 h3 b 0 us.length cap x ys.length (flat vs) hsrc hroom
        (fun j hj => by rw [hcell, Array.getElem?_eq_getElem (by omega)]; rfl) (fun j hj => by simp [World.frozen?, hheap])
      have hset : w.setCells b (0 + us.length * i.size) (flat vs) = w.setRow b (cur.toList.take (us.length * i.size) ++ flat vs ++ cur.toList.drop (us.length * i.size + (flat vs).length)).toArray := by
        have e1 := run_storeCells_cells (P := P) b (0 + us.length * i.size) (flat vs) 0 w (fun j hj => by rw [hcell, Array.getElem?_eq_getElem (by omega)]; rfl) (fun j hj => by simp [World.frozen?, hheap]) hsrc.one
        have e2 := run_storeCells_at P b (0 + us.length * i.size) ty' (flat vs) 0 cur w hheap (by omega) hsrc.one
        rw [e1] at e2
        simp only [Nat.add_zero, Nat.zero_add] at e2 ⊢
        injection e2
      rw [hset] at hrun
      have hsv : ∀ u ∈ us ++ vs, u.cells.size = i.size := flat_sized hl.sizes hvs
      have hsg : ∀ u ∈ us ++ vs, ∀ c ∈ u.cells.toList, single c := by
        intro u hu c hc
        rcases List.mem_append.1 hu with hu | hu
        · exact hl.one c (List.mem_flatMap.2 ⟨u, hu, hc⟩)
        · exact hone c (List.mem_flatMap.2 ⟨u, hu, hc⟩)
      have hlen : us.length + ys.length = (us ++ vs).length := by simp [hly]
      have hfl2 : (flat (us ++ vs)).length = (us ++ vs).length * i.size := flat_length hsv
      have hul : (flat us).length = us.length * i.size := flat_length hl.sizes
      have hnew := setRow_heap w b cur (cur.toList.take (us.length * i.size) ++ flat vs ++ cur.toList.drop (us.length * i.size + (flat vs).length)).toArray ty' (0, 0) hheap
      refine ⟨_, know M b (flat (us ++ vs)), _, vs, i.size, hrun, hrv, ?_, know_sub hno.1 hl h0, rfl, ⟨?_, ?_, fun a k b c e => by rw [setRow_size]; exact hm.oldR a k b c e⟩, ?_, ?_, ?_, fun k o hk hn => (setRow_other w b k _ (fun e => hn _ _ _ (by rw [e, hheap] at hk; cases hk; rfl))).trans hk⟩
      · refine ⟨_, _, by rw [← hlen], .inr ⟨by simp [hne], b, _, ty', rfl, hBb, .inl hown, hnew, by rw [← hlen]; exact hroom, ?_, h0, laid_new hsv hsg, ?_⟩⟩
        · simp only [List.size_toArray, List.length_append, List.length_take, List.length_drop, Array.length_toList]
          omega
        · refine ⟨fun ad ha ho => ?_, hno.2⟩
          simp only [know]
          split
          · rename_i hc
            exact List.getElem?_eq_none (by rw [hfl2]; exact ho hc.2)
          · rename_i hc
            exact hno.1 ad ha (fun hs => absurd ⟨ha, hs⟩ hc)
      · intro a v ha
        simp only [know] at ha
        split at ha
        · rename_i hc
          unfold World.cell?
          rw [hc.1, hnew]
          simp only [hc.2]
          rw [flat_append] at ha
          rw [List.append_assoc]
          rcases Nat.lt_or_ge a.off (us.length * i.size) with ho | ho
          · rw [List.getElem?_append_left (by omega)] at ha
            have h1 := hl.known h0 ha
            have h2 := hm.cell _ _ h1
            rw [add_plain, hcell] at h2
            have : (cur.toList.take (us.length * i.size))[a.off]? = some v := by
              rw [List.getElem?_take, if_pos ho]; simpa using h2
            have hlt := (List.getElem?_eq_some_iff.1 this).1
            simp only [List.getElem?_toArray]
            rw [List.getElem?_append_left hlt]; exact this
          · rw [List.getElem?_append_right (by omega)] at ha
            have hlt := (List.getElem?_eq_some_iff.1 ha).1
            have htl : (cur.toList.take (us.length * i.size)).length = us.length * i.size := by
              rw [List.length_take, Array.length_toList (xs := cur)]; omega
            simp only [List.getElem?_toArray]
            rw [List.getElem?_append_right (by rw [htl]; exact ho), htl, ← hul, List.getElem?_append_left hlt]
            exact ha
        · have hc := hm.cell a v ha
          by_cases hab : a.block = b
          · rename_i hnb
            rw [hno.1 a hab (fun hs => absurd ⟨hab, hs⟩ hnb)] at ha; cases ha
          · rw [cell_setRow_other w b _ a hab]; exact hc
      · intro a v ha
        rw [setRow_size]
        simp only [know] at ha
        split at ha
        · rename_i hc; rw [hc.1]; exact lt_of_heap hheap
        · exact hm.old a v ha
      · exact ⟨rfl, rfl, rfl, by rw [setRow_size]; exact Nat.le_refl _, fun k hk => setRow_other w b k _ (by omega)⟩
      · intro a ha hn
        simp only [know]
        rw [if_neg]
        rintro ⟨h, _⟩
        exact hn ⟨by rw [h]; exact hown, by omega⟩
      · intro k hk hn
        exact setRow_other w b k _ (fun e => hn ⟨by rw [e]; exact hown, by omega⟩)
    · exact grow (some ⟨b, 0, none⟩) cap rfl (.inr ⟨_, rfl, hl⟩) (by omega)
theorem app_core {kk : Option TypeId} {B : Nat} {own : Nat → Prop} {sv x : Value} {us : List Value} {sz sz' bytes : Nat} {fl : Bool} {xs ys : List V} {t t' ty e e' : TypeId} {i : TypeInfo} {z : Value} (hkk : ∀ q, kk = some q → e = q) (hm : Ok M w) (hB : B ≤ w.heap.size)
    (h1 : P.underlying t = some (.slice e)) (h2 : P.underlying t' = some (.slice e')) (h3 : P.info? e = some i) (h4 : i.size = sz) (h5 : i.bytes = bytes) (h6 : sz ≠ 0) (h7 : bytes ≠ 0) (h8 : i.zero = some z) (h9 : z.cells.size = sz)
    (hrow : RowAt kk M B w own sv us sz') (hxs : RL M xs us) (hsz : sizedL sz xs = true) (hy : RSl M fl ys x) (hys : sizedL sz ys = true) (hfit : std.fits bytes xs ys = true) :
    ∃ v' M' w' vs sz'', (Builtin.append_ #[t, t'] ty #[sv, x]).run P w = .ok v' w' ∧ RL M ys vs ∧ RowAt kk M' B w' (fun b => own b ∨ b = w.heap.size) v' (us ++ vs) sz'' ∧ Sub M M' ∧ M'.refs = M.refs ∧ Known M' w' ∧ Below B w w' ∧
      (∀ a : Addr, a.block < w.heap.size → ¬ (own a.block ∧ B ≤ a.block) → M' a = M a) ∧ (∀ b, b < w.heap.size → ¬ (own b ∧ B ≤ b) → w'.heap[b]? = w.heap[b]?) ∧ ∀ (b : Nat) (o : Obj), w.heap[b]? = some o → (∀ cs t fr, o ≠ .cells cs t fr) → w'.heap[b]? = some o := by
  obtain ⟨vs, hrv, hvs, hone, hsrc⟩ := src_of (w := w) hm h2 (Nat.pos_of_ne_zero h6) hy hys
  exact app_core' hkk hm hB h1 (.inr ⟨e', h2⟩) h3 h4 h5 h6 h7 h8 h9 hrow hxs hsz hrv hvs hone hsrc hfit
end

end Go.Evl
