/-
  A value semantics for the program's code, part 5: an operation that turns nothing yields a value that stands for what the small operation yields: the operations one by one.
  Conditions: none; this text holds definitions and lemmas of their own.
-/
import Derived.Test.YtbcihiehcekheaaDoorEv4
namespace Go.Evl
open Go Go.RowKit
set_option linter.unusedVariables false
set_option linter.unusedSimpArgs false

/-- What an operand of the small code reads, and what the machine's operand holds. -/
structure Reads (M : Mem) (G : Gh) (a : Act) (rd : A → D) (ts : List Nat) : Prop where
  val : ∀ v, rd (.v v) = .p v
  tmp : ∀ t, t ∈ ts → RD M G (rd (.t t)) (a.tmps.getD t undef)
theorem Reads.mono {M : Mem} {G : Gh} {a : Act} {rd : A → D} {ts ts' : List Nat} (h : Reads M G a rd ts) (hs : ∀ t, t ∈ ts' → t ∈ ts) : Reads M G a rd ts' := ⟨h.val, fun t ht => h.tmp t (hs t ht)⟩

section
variable {M : Mem} {G : Gh} {a : Act} {rd : A → D}
theorem opd {y : Operand} {x : A} (h : okA y x = true) (hr : Reads M G a rd x.tmps) : RD M G (rd x) (a.eval y) := by
  unfold okA at h
  split at h
  · simp at h; subst h
    exact hr.tmp _ (by simp [A.tmps])
  · rw [hr.val]; exact (okV_R h).1
  · simp at h; subst h
    rw [hr.val]
    show R M (.clo _ []) _
    rw [R]
    exact ⟨[], rfl, by rw [RL]⟩
  · cases h
theorem opdV {y : Operand} {x : A} {v : V} (h : okA y x = true) (hr : Reads M G a rd x.tmps) (hv : (rd x).toV = some v) : R M v (a.eval y) := (opd h hr).toV hv
theorem opds : ∀ {ys : List Operand} {xs : List A} {vs : List V}, okAs ys xs = true → Reads M G a rd (tmpsL xs) → allV (xs.map rd) = some vs → RL M vs (ys.map a.eval)
  | [], [], vs, _, _, hv => by simp [allV] at hv; subst hv; simp [RL]
  | y :: ys, x :: xs, vs, h, hr, hv => by
    simp only [okAs, Bool.and_eq_true] at h
    simp only [List.map_cons, allV] at hv
    split at hv
    · cases hv
    · rename_i v hx
      split at hv
      · rename_i vs' hxs
        cases hv
        rw [List.map_cons, RL]
        exact ⟨_, _, rfl, opdV h.1 (hr.mono (fun t ht => by simp [tmpsL, ht])) hx, opds h.2 (hr.mono (fun t ht => by simp [tmpsL, ht])) hxs⟩
      · cases hv
  | [], _ :: _, _, h, _, _ => by simp [okAs] at h
  | _ :: _, [], _, h, _, _ => by simp [okAs] at h
end

theorem R_int {M : Mem} {k : IntKind} {n : Int} {u : Value} (h : R M (.int k n) u) : u = .int k n := by rw [R] at h; exact h
theorem R_bool {M : Mem} {b : Bool} {u : Value} (h : R M (.bool b) u) : u = .bool b := by rw [R] at h; exact h
theorem R_str {M : Mem} {b : ByteArray} {u : Value} (h : R M (.str b) u) : u = .string b := by rw [R] at h; exact h
theorem R_int' (M : Mem) (k : IntKind) (n : Int) : R M (.int k n) (.int k n) := by rw [R]
theorem R_bool' (M : Mem) (b : Bool) : R M (.bool b) (.bool b) := by rw [R]
theorem R_str' (M : Mem) (s : ByteArray) : R M (.str s) (.string s) := by rw [R]

/-- What is no aggregate and no tuple lies in one cell. -/
theorem R_single {M : Mem} {v : V} {u : Value} (h : R M v u) (h1 : ∀ cs, v ≠ .agg cs) (h2 : ∀ vs, v ≠ .tup vs) : single u := by
  cases v with
  | int k n => rw [R_int h]; exact ⟨rfl, rfl⟩
  | bool b => rw [R_bool h]; exact ⟨rfl, rfl⟩
  | str s => rw [R_str h]; exact ⟨rfl, rfl⟩
  | agg cs => exact absurd rfl (h1 cs)
  | tup vs => exact absurd rfl (h2 vs)
  | sl f t xs => obtain ⟨_, _, rfl, _⟩ := R_sl.1 h; exact ⟨rfl, rfl⟩
  | ptr cs off => rw [R] at h; obtain ⟨_, _, rfl, _⟩ := h; exact ⟨rfl, rfl⟩
  | clo f cs => rw [R] at h; obtain ⟨_, rfl, _⟩ := h; exact ⟨rfl, rfl⟩
  | lit u => rw [R_lit.1 h]; exact single_lit u
  | ref r k lo len => exact RRef.single (R_ref.1 h)

/-- The cells of a value that stands for a content: they stand for the content's cells. -/
theorem R_cells {M : Mem} {v : V} {u : Value} (h : R M v u) (h2 : ∀ vs, v ≠ .tup vs) : RL M v.cells u.cells.toList ∧ ∀ c ∈ u.cells.toList, single c := by
  by_cases h1 : ∃ cs, v = .agg cs
  · obtain ⟨cs, rfl⟩ := h1
    rw [R] at h
    obtain ⟨us, rfl, hr, hs⟩ := h
    exact ⟨by simpa [V.cells, Value.cells] using hr, by simpa [Value.cells] using hs⟩
  · have h1' : ∀ cs, v ≠ .agg cs := fun cs e => h1 ⟨cs, e⟩
    have hs := R_single h h1' h2
    have hc : v.cells = [v] := by
      cases v <;> first | rfl | exact absurd rfl (h1' _)
    rw [hs.1, hc]
    refine ⟨by simp [RL, h], fun c hc => ?_⟩
    simp at hc; subst hc; exact hs

theorem cond_some {α : Type} {c : Bool} {x : Option α} {y : α} (h : (bif c then x else none) = some y) : c = true ∧ x = some y := by
  cases c with
  | true => exact ⟨rfl, h⟩
  | false => cases h

/-! ### Types -/
theorem size_run {P : Program} {t : TypeId} {s : Nat} (h : tySize P t = some s) (w : World) : (sizeOf t).run P w = .ok s w := by
  unfold tySize at h
  cases hi : P.info? t with
  | none => simp [hi] at h
  | some i => simp [hi] at h; subst h; simp [sizeOf, typeInfo, hi]
theorem agg_run {P : Program} {t : TypeId} {b : Bool} (h : tyAgg P t = some b) (w : World) : (isAgg t).run P w = .ok b w := by
  unfold tyAgg at h
  unfold isAgg
  split at h
  · rename_i hu; cases h; simp [Sem.run_bind, run_underlying hu]
  · rename_i hu; cases h; simp [Sem.run_bind, run_underlying hu]
  · rename_i d h1 h2 hu
    cases h
    rw [Sem.run_bind, run_underlying hu w]
    cases hu' : d <;> simp_all
  · cases h

/-- A part of an aggregate. -/
theorem part_run {P : Program} {M : Mem} {t : TypeId} {cs : List V} {us : List Value} {off sz : Nat} {ag : Bool} {v : V} (h1 : tySize P t = some sz) (h2 : tyAgg P t = some ag)
    (hr : RL M cs us) (hs : ∀ u ∈ us, single u) (hp : partV cs off sz ag = some v) (w : World) : ∃ u, (part t us.toArray off).run P w = .ok u w ∧ R M v u := by
  unfold partV at hp
  cases ag with
  | true =>
    simp only [cond_true] at hp
    obtain ⟨hl, hp⟩ := cond_some hp
    cases hp
    refine ⟨.agg ((us.drop off).take sz).toArray, ?_, ?_⟩
    · simp [part, Sem.run_bind, agg_run h2, size_run h1, List.extract_eq_take_drop]
    · rw [R]
      exact ⟨_, rfl, (hr.drop off).take sz, fun u hu => hs u (List.mem_of_mem_drop (List.mem_of_mem_take hu))⟩
  | false =>
    simp only [cond_false] at hp
    obtain ⟨u, hu, hv⟩ := hr.get hp
    exact ⟨u, by simp [part, Sem.run_bind, agg_run h2, hu], hv⟩

/-- A variable that lies at cells that are known. -/
theorem load_run {P : Program} {M : Mem} {w : World} {t : TypeId} {cs : List V} {us : List Value} {off sz : Nat} {ag : Bool} {v : V} {ad : Addr} (h1 : tySize P t = some sz) (h2 : tyAgg P t = some ag)
    (hr : RL M cs us) (hs : ∀ j u, us[j]? = some u → w.cell? (ad.add j) = some u ∧ single u) (hp : partV cs off sz ag = some v) :
    ∃ u, (loadVar t (ad.add off)).run P w = .ok u w ∧ R M v u := by
  unfold partV at hp
  cases ag with
  | true =>
    simp only [cond_true] at hp
    obtain ⟨hl, hp⟩ := cond_some hp
    · cases hp
      have hl' : ((us.drop off).take sz).length = sz := by
        have := ((hr.drop off).take sz).length
        simp only [beq_iff_eq] at hl
        omega
      have := run_loadCells_list (P := P) w (ad.add off) ((us.drop off).take sz) (fun j u hu => by
        rw [List.getElem?_take] at hu
        split at hu
        · rw [List.getElem?_drop] at hu
          rw [add_add]
          exact (hs _ _ hu).1
        · cases hu)
      rw [hl'] at this
      refine ⟨.agg ((us.drop off).take sz).toArray, ?_, ?_⟩
      · simp [loadVar, Sem.run_bind, agg_run h2, size_run h1, this]
      · rw [R]
        refine ⟨_, rfl, (hr.drop off).take sz, fun u hu => ?_⟩
        obtain ⟨j, hj⟩ := List.getElem?_of_mem (List.mem_of_mem_drop (List.mem_of_mem_take hu))
        exact (hs j u hj).2
  | false =>
    simp only [cond_false] at hp
    obtain ⟨u, hu, hv⟩ := hr.get hp
    have := (hs off u hu).1
    exact ⟨u, by simp [loadVar, Sem.run_bind, agg_run h2, run_load, this], hv⟩

/-- The same out of a box. -/
theorem allV_RL {M : Mem} {G : Gh} : ∀ {ds : List D} {vs : List V} {us : List Value}, allV ds = some vs → us.length = ds.length → (∀ (j : Nat) (d : D) (u : Value), ds[j]? = some d → us[j]? = some u → RD M G d u ∧ single u) → RL M vs us ∧ ∀ u ∈ us, single u
  | [], vs, us, hv, hl, _ => by
    simp [allV] at hv; subst hv
    have : us = [] := List.eq_nil_of_length_eq_zero hl
    subst this
    exact ⟨by rw [RL], by simp⟩
  | d :: ds, vs, [], hv, hl, _ => by simp at hl
  | d :: ds, vs, u :: us, hv, hl, h => by
    simp only [allV] at hv
    split at hv
    · cases hv
    · rename_i v hx
      split at hv
      · rename_i vs' hxs
        cases hv
        obtain ⟨h1, h2⟩ := allV_RL (us := us) hxs (by simpa using hl) (fun j d' u' hd hu => h (j + 1) d' u' (by simpa using hd) (by simpa using hu))
        have h0 := h 0 d u rfl rfl
        refine ⟨by rw [RL]; exact ⟨u, us, rfl, h0.1.toV hx, h1⟩, fun u' hu' => ?_⟩
        cases hu' with
        | head => exact h0.2
        | tail _ hu' => exact h2 u' hu'
      · cases hv
theorem loadD_run {P : Program} {M : Mem} {G : Gh} {w : World} {t : TypeId} {cs : List D} {us : List Value} {off sz : Nat} {ag : Bool} {d : D} {b : Nat} {e : TypeId} (h1 : tySize P t = some sz) (h2 : tyAgg P t = some ag)
    (hh : w.heap[b]? = some (.cells us.toArray e (0, 0))) (hl : cs.length ≤ us.length) (hs : ∀ (j : Nat) (d : D) (u : Value), cs[j]? = some d → us[j]? = some u → RD M G d u ∧ single u) (hp : partD cs off sz ag = some d) :
    ∃ u, (loadVar t ⟨b, off, none⟩).run P w = .ok u w ∧ RD M G d u := by
  have hc : ∀ j u, us[j]? = some u → w.cell? ⟨b, j, none⟩ = some u := fun j u hu => by simp [World.cell?, hh, hu]
  unfold partD at hp
  cases ag with
  | true =>
    simp only [cond_true] at hp
    obtain ⟨hq, hp⟩ := cond_some hp
    · split at hp
      · rename_i vs hvs
        cases hp
        have hq' : ((cs.drop off).take sz).length = sz := by simpa using hq
        have hlen : ((us.drop off).take sz).length = ((cs.drop off).take sz).length := by have := hq'; simp at this ⊢; omega
        have hget : ∀ (j : Nat) (d : D) (u : Value), ((cs.drop off).take sz)[j]? = some d → ((us.drop off).take sz)[j]? = some u → RD M G d u ∧ single u := by
          intro j d u hd hu
          rw [List.getElem?_take] at hd hu
          split at hd
          · rename_i hj
            rw [if_pos hj] at hu
            rw [List.getElem?_drop] at hd hu
            exact hs _ _ _ hd hu
          · cases hd
        obtain ⟨h3, h4⟩ := allV_RL hvs hlen hget
        have := run_loadCells_list (P := P) w ⟨b, off, none⟩ ((us.drop off).take sz) (fun j u hu => by
          rw [List.getElem?_take] at hu
          split at hu
          · rw [List.getElem?_drop] at hu
            rw [add_plain']
            exact hc _ _ hu
          · cases hu)
        rw [hlen, hq'] at this
        refine ⟨.agg ((us.drop off).take sz).toArray, ?_, ?_⟩
        · simp [loadVar, Sem.run_bind, agg_run h2, size_run h1, this]
        · show R M (.agg vs) _
          rw [R]
          exact ⟨_, rfl, h3, h4⟩
      · cases hp
  | false =>
    simp only [cond_false] at hp
    have hj : off < us.length := by
      have := (List.getElem?_eq_some_iff.1 hp).1
      omega
    have hu : us[off]? = some us[off] := List.getElem?_eq_getElem hj
    exact ⟨us[off], by simp [loadVar, Sem.run_bind, agg_run h2, run_load, hc _ _ hu], (hs off d _ hp hu).1⟩

/-! ### Rows -/
theorem rowCs_nil (t : Ty) : rowCs t [] = [] := rfl
theorem rowCs_cons (t : Ty) (x : t.D) (xs : List t.D) : rowCs t (x :: xs) = (t.enc x).cells.map D.p ++ rowCs t xs := rfl
theorem rowCs_append (t : Ty) (xs ys : List t.D) : rowCs t (xs ++ ys) = rowCs t xs ++ rowCs t ys := by unfold rowCs; rw [List.flatMap_append]
theorem rowCs_len (t : Ty) (xs : List t.D) : (rowCs t xs).length = xs.length * t.csz := by
  induction xs with
  | nil => simp [rowCs_nil]
  | cons x xs ih => rw [rowCs_cons, List.length_append, ih, List.length_map, Ty.enc_cells, List.length_cons, Nat.succ_mul, Nat.add_comm]
theorem list_split {α : Type} {xs : List α} {i : Nat} {e : α} (h : xs[i]? = some e) : xs = xs.take i ++ (e :: xs.drop (i + 1)) := by
  have hl := (List.getElem?_eq_some_iff.1 h).1
  have he := (List.getElem?_eq_some_iff.1 h).2
  rw [← he]
  simp
theorem row_split {t : Ty} {xs : List t.D} {i : Nat} {e : t.D} (h : xs[i]? = some e) : ∃ C, rowCs t xs = rowCs t (xs.take i) ++ ((t.enc e).cells.map D.p ++ C) ∧ (rowCs t (xs.take i)).length = i * t.csz ∧ ∀ e', rowCs t (xs.set i e') = rowCs t (xs.take i) ++ ((t.enc e').cells.map D.p ++ C) := by
  have hl := (List.getElem?_eq_some_iff.1 h).1
  have hlen : (rowCs t (xs.take i)).length = i * t.csz := by rw [rowCs_len, List.length_take, Nat.min_eq_left (Nat.le_of_lt hl)]
  refine ⟨rowCs t (xs.drop (i + 1)), ?_, hlen, fun e' => ?_⟩
  · have := congrArg (rowCs t) (list_split h)
    rw [rowCs_append, rowCs_cons] at this
    exact this
  · have hs : xs.set i e' = xs.take i ++ (e' :: xs.drop (i + 1)) := List.set_eq_take_append_cons_drop .. |>.trans (by rw [if_pos hl])
    rw [hs, rowCs_append, rowCs_cons]
theorem allV_map_p : ∀ (vs : List V), allV (vs.map D.p) = some vs
  | [] => rfl
  | v :: vs => by simp [allV, D.toV, allV_map_p vs]
/-- A part of an element of a row. -/
theorem part_row {t : Ty} {xs : List t.D} {i : Nat} {e : t.D} {off sz : Nat} {ag : Bool} {v : V} (hi : xs[i]? = some e) (hle : off + sz ≤ t.csz) (hp : partV (t.enc e).cells off sz ag = some v) : partD (rowCs t xs) (i * t.csz + off) sz ag = some (.p v) := by
  obtain ⟨C, h1, h2, _⟩ := row_split hi
  have hcl : ((t.enc e).cells.map D.p).length = t.csz := by rw [List.length_map, Ty.enc_cells]
  have hd : (rowCs t xs).drop (i * t.csz + off) = ((t.enc e).cells.drop off).map D.p ++ C := by
    rw [h1, ← List.drop_drop, ← h2, List.drop_left, List.drop_append_of_le_length (by omega), List.map_drop]
  unfold partV at hp
  unfold partD
  cases ag with
  | true =>
    simp only [cond_true] at hp ⊢
    obtain ⟨hq, hp⟩ := cond_some hp
    cases hp
    have ht : ((rowCs t xs).drop (i * t.csz + off)).take sz = (((t.enc e).cells.drop off).take sz).map D.p := by
      rw [hd, List.take_append_of_le_length (by rw [List.length_map, List.length_drop, Ty.enc_cells]; omega), List.map_take]
    rw [ht, allV_map_p, List.length_map, hq]
    rfl
  | false =>
    simp only [cond_false] at hp ⊢
    have ho : off < (t.enc e).cells.length := (List.getElem?_eq_some_iff.1 hp).1
    have := congrArg (fun l => l[0]?) hd
    simp only [List.getElem?_drop, Nat.add_zero] at this
    rw [this, List.getElem?_append_left (by rw [List.length_map, List.length_drop]; omega), List.getElem?_map, List.getElem?_drop, Nat.add_zero, hp]
    rfl
/-- A store into an element of a row. -/
theorem set_row {t : Ty} {xs : List t.D} {i : Nat} {e e' : t.D} {off : Nat} {vs : List V} (hi : xs[i]? = some e) (hle : off + vs.length ≤ t.csz) (he : (t.enc e').cells = setRange (t.enc e).cells off vs) : rowCs t (xs.set i e') = setRange (rowCs t xs) (i * t.csz + off) (vs.map D.p) := by
  obtain ⟨C, h1, h2, h3⟩ := row_split hi
  have hcl : ((t.enc e).cells.map D.p).length = t.csz := by rw [List.length_map, Ty.enc_cells]
  rw [h3, he, h1]
  unfold setRange
  rw [List.length_map]
  have e1 : (rowCs t (xs.take i) ++ (((t.enc e).cells.map D.p) ++ C)).take (i * t.csz + off) = rowCs t (xs.take i) ++ ((t.enc e).cells.take off).map D.p := by
    rw [← h2, List.take_append, List.take_of_length_le (by omega), Nat.add_sub_cancel_left, List.take_append_of_le_length (by omega), List.map_take]
  have e2 : (rowCs t (xs.take i) ++ (((t.enc e).cells.map D.p) ++ C)).drop (i * t.csz + off + vs.length) = ((t.enc e).cells.drop (off + vs.length)).map D.p ++ C := by
    rw [Nat.add_assoc, ← List.drop_drop, ← h2, List.drop_left, List.drop_append_of_le_length (by omega), List.map_drop]
  rw [e1, e2]
  simp [List.append_assoc]

end Go.Evl
