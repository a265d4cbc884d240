/-
  The arguments of a row, opened: what reads as data stands for contents, with every number in its range; and how a call that turns nothing old meets the row's post.
  Conditions: none.
-/
import Derived.Test.YtbcihiehcekheaaDoorEv1
import Derived.ChangeArms
import Derived.Deep.Slices
import Derived.Carry
import Derived.OpenVars
import Derived.Clock
import Derived.RowKit
import Derived.RowKit3
namespace Go.Evl
open Go Go.ChangeShapes Go.WideShapes Go.RowKit
set_option linter.unusedVariables false
set_option linter.unusedSimpArgs false

def Ty.flat : Ty → Bool
  | .int _ => true
  | .bool => true
  | .str => true
  | .sl _ => true
  | _ => false
mutual
/-- A type of the program holds contents of a kind. -/
def Ty.ofT (P : Program) : Ty → TypeId → Bool
  | .int k, t => match P.underlying t with
    | some (.int k') => kindEq k' k
    | _ => false
  | .bool, t => match P.underlying t with
    | some .bool => true
    | _ => false
  | .str, t => match P.underlying t with
    | some .string => true
    | _ => false
  | .sl τ, t => match P.underlying t with
    | some (.slice e) => τ.ofT P e && (Nat.beq (P.cellsOf e) τ.csz && Nat.blt 0 τ.csz)
    | _ => false
  | .agg ts, t => match P.underlying t with
    | some (.struct fs) => Nat.beq (P.cellsOf t) ts.len && (Nat.beq fs.size ts.len && ts.ofF P fs 0)
    | _ => false
  | _, _ => false
def Tys.ofF (P : Program) : Tys → Array Field → Nat → Bool
  | .nil, _, _ => true
  | .cons τ ts, fs, o => match fs[o]? with
    | some f => τ.flat && (τ.ofT P f.type && (Nat.beq f.offset o && (Nat.beq (P.cellsOf f.type) 1 && ts.ofF P fs (o + 1))))
    | none => false
end
mutual
/-- Every number is in its range, every slice as long as one can be. -/
def Ty.Fit : (τ : Ty) → τ.D → Prop
  | .int k, n => (Lit.int k n).wf = true
  | .sl t, xs => List.length (α := t.D) xs ≤ maxLen ∧ ∀ (i : Nat) (x : t.D), GetElem?.getElem? (coll := List t.D) xs i = some x → t.Fit x
  | .agg ts, d => ts.Fit d
  | _, _ => True
def Tys.Fit : (ts : Tys) → ts.D → Prop
  | .nil, _ => True
  | .cons t ts, d => t.Fit d.1 ∧ ts.Fit d.2
end
theorem rows_of {α β : Type} {p : Nat → α → β → Prop} : ∀ (n : Nat), (∀ i, i < n → ∃ a b, p i a b) → ∃ (as : List α) (bs : List β), as.length = n ∧ bs.length = n ∧ ∀ i a b, as[i]? = some a → bs[i]? = some b → p i a b
  | 0, _ => ⟨[], [], rfl, rfl, fun i a b h => by simp at h⟩
  | n + 1, h => by
    obtain ⟨as, bs, h1, h2, h3⟩ := rows_of n (fun i hi => h i (by omega))
    obtain ⟨a, b, hab⟩ := h n (by omega)
    refine ⟨as ++ [a], bs ++ [b], by simp [h1], by simp [h2], fun i x y hx hy => ?_⟩
    by_cases hi : i < n
    · rw [List.getElem?_append_left (by omega)] at hx hy
      exact h3 i x y hx hy
    · rw [List.getElem?_append_right (by omega)] at hx hy
      have : i = n := by
        have := (List.getElem?_eq_some_iff.1 hx).1
        simp at this; omega
      subst this
      rw [h1] at hx
      rw [h2] at hy
      simp at hx hy
      subst hx hy
      exact hab
theorem single_of {u : Value} (h : u.cells = #[u]) (g : u.oneCell' = true) : single u := ⟨h, g⟩
theorem ofT_sl {P : Program} {τ : Ty} {t : TypeId} (h : (Ty.sl τ).ofT P t = true) : ∃ e, P.underlying t = some (.slice e) ∧ τ.ofT P e = true ∧ P.cellsOf e = τ.csz ∧ 0 < τ.csz := by
  rw [Ty.ofT] at h
  split at h
  · rename_i e he
    simp only [Bool.and_eq_true, Nat.beq_eq_true_eq, Nat.blt_eq] at h
    exact ⟨e, he, h.1, Nat.eq_of_beq_eq_true h.2.1, h.2.2⟩
  · cases h
theorem ofT_agg {P : Program} {ts : Tys} {t : TypeId} (h : (Ty.agg ts).ofT P t = true) : ∃ fs, P.underlying t = some (.struct fs) ∧ P.cellsOf t = ts.len ∧ fs.size = ts.len ∧ ts.ofF P fs 0 = true := by
  rw [Ty.ofT] at h
  split at h
  · rename_i e he
    simp only [Bool.and_eq_true, Nat.beq_eq_true_eq] at h
    exact ⟨e, he, Nat.eq_of_beq_eq_true h.1, Nat.eq_of_beq_eq_true h.2.1, h.2.2⟩
  · cases h
theorem ofF_cons {P : Program} {τ : Ty} {ts : Tys} {fs : Array Field} {o : Nat} (h : (Tys.cons τ ts).ofF P fs o = true) : ∃ f, fs[o]? = some f ∧ τ.flat = true ∧ τ.ofT P f.type = true ∧ f.offset = o ∧ P.cellsOf f.type = 1 ∧ ts.ofF P fs (o + 1) = true := by
  rw [Tys.ofF] at h
  split at h
  · rename_i f hf
    simp only [Bool.and_eq_true, Nat.beq_eq_true_eq] at h
    exact ⟨f, hf, h.1, h.2.1, Nat.eq_of_beq_eq_true h.2.2.1, Nat.eq_of_beq_eq_true h.2.2.2.1, h.2.2.2.2⟩
  · cases h
/-- What lies in the memory; no references. -/
def memOf (w : World) : Mem := ⟨fun a => w.cell? a, fun _ _ => none⟩
theorem flat_cells {M : Mem} : ∀ {τ : Ty} {d : τ.D} {u : Value}, τ.flat = true → RT M τ d u → u.cells = #[u]
  | .int _, _, _, _, h => by cases h; rfl
  | .bool, _, _, _, h => by cases h; rfl
  | .str, _, _, _, h => by cases h; rfl
  | .sl _, _, _, _, h => by obtain ⟨a, cap, rfl, _⟩ := RT_sl.1 h; rfl
variable {H : Type} {enc : TypeId × Value → H} {P : Program} {w : World} {base : Nat} {spare : Nat → Bool} {held : Bool}
mutual
/-- What reads as data stands for contents of the kind. -/
theorem open_T : ∀ (τ : Ty) (t : TypeId) (fuel : Nat) (cs : List Value) (x : DataW H × List MemPlace), τ.ofT P t = true → DataW.trod enc P w base spare held fuel t cs = some x →
    ∃ (d : τ.D) (u : Value), cs = u.cells.toList ∧ RT (memOf w) τ d u ∧ τ.Fit d ∧ (∀ c ∈ u.cells.toList, single c) ∧ u.cells.size = τ.csz
  | .int k, t, fuel, cs, x, ht, h => by
    rw [Ty.ofT] at ht
    split at ht
    · rename_i k' he
      obtain rfl := kindEq_eq ht
      obtain ⟨n, rfl, _, hw⟩ := DataW.trod_int he h
      exact ⟨n, .int k' n, rfl, rfl, hw, fun c hc => by simp [Value.cells] at hc; subst hc; exact ⟨rfl, rfl⟩, rfl⟩
    · cases ht
  | .bool, t, fuel, cs, x, ht, h => by
    rw [Ty.ofT] at ht
    split at ht
    · rename_i he
      obtain ⟨b, rfl, _⟩ := DataW.trod_bool he h
      exact ⟨b, .bool b, rfl, rfl, trivial, fun c hc => by simp [Value.cells] at hc; subst hc; exact ⟨rfl, rfl⟩, rfl⟩
    · cases ht
  | .str, t, fuel, cs, x, ht, h => by
    rw [Ty.ofT] at ht
    split at ht
    · rename_i he
      obtain ⟨s, rfl, _, _⟩ := DataW.trod_string he h
      exact ⟨s, .string s, rfl, rfl, trivial, fun c hc => by simp [Value.cells] at hc; subst hc; exact ⟨rfl, rfl⟩, rfl⟩
    · cases ht
  | .sl τ, t, fuel, cs, x, ht, h => by
    obtain ⟨e, he, h1, h2, h3⟩ := ofT_sl ht
    rcases Deep.open_slice he h with ⟨rfl, _⟩ | ⟨a, len, cap, m, n, D, Pl, rfl, hb, hl, hm, hmm, _, hx⟩
    · exact ⟨([] : List τ.D), .slice none 0 0, rfl, RT_sl.2 ⟨none, 0, rfl, Nat.le_refl _, .inl rfl⟩, ⟨Nat.zero_le _, fun i x hx => by simp at hx⟩, fun c hc => by simp [Value.cells] at hc; subst hc; exact ⟨rfl, rfl⟩, rfl⟩
    · have hlm : len ≤ m := by rw [hmm]; split <;> omega
      obtain ⟨ds, us, e1, e2, e3⟩ := rows_of (α := τ.D) (β := Value) (p := fun i d u => RT (memOf w) τ d u ∧ τ.Fit d ∧ (∀ c ∈ u.cells.toList, single c) ∧ u.cells.size = τ.csz ∧ ∀ j, j < τ.csz → w.cell? (a.add (i * τ.csz + j)) = u.cells[j]?) len (fun i hi => by
        obtain ⟨cs', g1, g2⟩ := hx i (by omega)
        obtain ⟨d, u, q1, q2, q3, q4, q5⟩ := open_T τ e n cs' _ h1 g2
        obtain ⟨_, g3, g4⟩ := World.cells?_some g1
        refine ⟨d, u, q2, q3, q4, q5, fun j hj => ?_⟩
        have := g4 j (by omega)
        rw [Deep.add_add, h2] at this
        rw [this, q1, Array.getElem?_toList])
      refine ⟨ds, .slice (some a) len cap, rfl, RT_sl.2 ⟨some a, cap, by rw [e1], by omega, .inr ⟨a, τ.csz, us, rfl, h3, ⟨by omega, fun i x u hx hu => (e3 i x u hx hu).1⟩, fun i u hu => ?_⟩⟩, ⟨by omega, fun i x hx => ?_⟩, fun c hc => by simp [Value.cells] at hc; subst hc; exact ⟨rfl, rfl⟩, rfl⟩
      · have hi := (List.getElem?_eq_some_iff.1 hu).1
        obtain ⟨d, hd⟩ : ∃ d, ds[i]? = some d := ⟨_, List.getElem?_eq_getElem (by omega)⟩
        obtain ⟨_, _, r3, r4, r5⟩ := e3 i d u hd hu
        exact ⟨r4, r3, r5⟩
      · have hi := (List.getElem?_eq_some_iff.1 hx).1
        obtain ⟨u, hu⟩ : ∃ u, us[i]? = some u := ⟨_, List.getElem?_eq_getElem (by omega)⟩
        exact (e3 i x u hx hu).2.1
  | .agg ts, t, fuel, cs, x, ht, h => by
    obtain ⟨fs, he, h1, h2, h3⟩ := ofT_agg ht
    obtain ⟨xs, n, _, _, hl, hxl, hxs⟩ := DataW.trod_struct he h
    obtain ⟨d, g1, g2, g3⟩ := open_F ts fs 0 n cs h3 (by omega) (by omega) (fun i f hf => by
      obtain ⟨y, hy⟩ : ∃ y, xs[i]? = some y := ⟨_, List.getElem?_eq_getElem (by rw [hxl]; exact (Array.getElem?_eq_some_iff.1 hf).1)⟩
      exact ⟨y, (hxs i f hf).trans hy⟩)
    rw [List.drop_zero] at g1 g3
    exact ⟨d, .agg cs.toArray, by simp [Value.cells], RT_agg.2 ⟨cs, rfl, g1, g3⟩, g2, fun c hc => g3 c (by simpa [Value.cells] using hc), by simp [Value.cells, Ty.csz]; omega⟩
  | .tup _, _, _, _, _, ht, _ => by simp [Ty.ofT] at ht
  | .ptr _ _, _, _, _, _, ht, _ => by simp [Ty.ofT] at ht
  | .clo _ _, _, _, _, _, ht, _ => by simp [Ty.ofT] at ht
  | .lit _, _, _, _, _, ht, _ => by simp [Ty.ofT] at ht
theorem open_F : ∀ (ts : Tys) (fs : Array Field) (o n : Nat) (cs : List Value), ts.ofF P fs o = true → cs.length = o + ts.len → fs.size = o + ts.len →
    (∀ (i : Nat) (f : Field), fs[i]? = some f → ∃ y, DataW.trod enc P w base spare held n f.type ((cs.drop f.offset).take (P.cellsOf f.type)) = some y) →
    ∃ d : ts.D, RTs (memOf w) ts d (cs.drop o) ∧ ts.Fit d ∧ ∀ u ∈ cs.drop o, single u
  | .nil, fs, o, n, cs, ht, hl, hs, hx => by
    have : cs.drop o = [] := List.drop_eq_nil_of_le (by rw [hl]; simp [Tys.len])
    exact ⟨(), RTs_nil.2 this, trivial, by rw [this]; simp⟩
  | .cons τ ts, fs, o, n, cs, ht, hl, hs, hx => by
    obtain ⟨f, hf, h1, h2, h3, h4, h5⟩ := ofF_cons ht
    rw [Tys.len] at hl hs
    obtain ⟨d', g1, g2, g3⟩ := open_F ts fs (o + 1) n cs h5 (by omega) (by omega) hx
    obtain ⟨y, hy⟩ := hx o f hf
    obtain ⟨d, u, q1, q2, q3, q4, q5⟩ := open_T τ f.type n _ y h2 hy
    have hd : cs.drop o = u :: cs.drop (o + 1) := by
      have hlt : o < cs.length := by omega
      have e0 : (cs.drop o)[0]? = some u := by
        rw [h3, h4, flat_cells h1 q2] at q1
        have := congrArg (·[0]?) q1
        simpa [List.getElem?_take] using this
      rw [List.getElem?_drop, Nat.add_zero, List.getElem?_eq_getElem hlt] at e0
      rw [← List.getElem_cons_drop hlt, Option.some.inj e0]
    refine ⟨(d, d'), RTs_cons.2 ⟨u, cs.drop (o + 1), hd, q2, g1⟩, ⟨q3, g2⟩, ?_⟩
    rw [hd]
    intro c hc
    rcases List.mem_cons.1 hc with rfl | hc
    · exact q4 c (by rw [flat_cells h1 q2]; simp)
    · exact g3 c hc
end
theorem agg_of_cells {v u : Value} (h : v.cells = u.cells) (hv : v.cells = #[v]) (hu : u.cells = #[u]) : v = u := by
  rw [hv, hu] at h
  simpa using h
/-- An argument, opened. -/
theorem open_arg {τ : Ty} {t : TypeId} {v : Value} {d : DataW H} {ps : List MemPlace} {r : Reach} {b0 : Nat} (ht : τ.ofT P t = true) (hval : Value.okWide P w r b0 t v) (h : DataW.Trod enc P w base spare held t v d ps) :
    ∃ d : τ.D, RT (memOf w) τ d v ∧ τ.Fit d := by
  obtain ⟨fuel, h⟩ := h
  obtain ⟨d, u, h1, h2, h3, _, _⟩ := open_T τ t fuel _ _ ht h
  have hc : v.cells = u.cells := Array.toList_inj.1 h1
  refine ⟨d, ?_, h3⟩
  suffices e : v = u by rw [e]; exact h2
  clear h3
  match τ, d, ht, h2 with
  | .int k, d, ht, h2 =>
    rw [Ty.ofT] at ht
    split at ht
    · rename_i k' he
      obtain ⟨n, rfl⟩ := okWide_int he hval
      exact agg_of_cells hc rfl (flat_cells (τ := .int k) (d := d) rfl h2)
    · cases ht
  | .bool, d, ht, h2 =>
    rw [Ty.ofT] at ht
    split at ht
    · rename_i he
      obtain ⟨n, rfl⟩ := okWide_bool he hval
      exact agg_of_cells hc rfl (flat_cells (τ := .bool) (d := d) rfl h2)
    · cases ht
  | .str, d, ht, h2 =>
    rw [Ty.ofT] at ht
    split at ht
    · rename_i he
      obtain ⟨n, rfl⟩ := okWide_string he hval
      exact agg_of_cells hc rfl (flat_cells (τ := .str) (d := d) rfl h2)
    · cases ht
  | .sl τ, d, ht, h2 =>
    obtain ⟨e, he, _⟩ := ofT_sl ht
    obtain ⟨a, len, cap, rfl⟩ := okWide_slice he hval
    exact agg_of_cells hc rfl (flat_cells (τ := .sl τ) (d := d) rfl h2)
  | .agg ts, d, ht, h2 =>
    obtain ⟨fs, he, _⟩ := ofT_agg ht
    obtain ⟨cs, rfl, _⟩ := okWide_struct he hval
    obtain ⟨us, rfl, _⟩ := RT_agg.1 h2
    have : cs = us.toArray := hc
    rw [this]
  | .tup _, _, ht, _ => simp [Ty.ofT] at ht
  | .ptr _ _, _, ht, _ => simp [Ty.ofT] at ht
  | .clo _ _, _, ht, _ => simp [Ty.ofT] at ht
  | .lit _, _, ht, _ => simp [Ty.ofT] at ht
/-- The kinds of a call's parameters. -/
def Tys.ofA (P : Program) : Tys → List TypeId → Bool
  | .nil, [] => true
  | .cons τ ts, t :: l => τ.ofT P t && ts.ofA P l
  | _, _ => false
/-- The arguments, opened. -/
theorem open_args {r : Reach} {b0 : Nat} : ∀ (ts : Tys) (l : List TypeId) (vs : List Value) (ds : List (DataW H)) (ps : List MemPlace), ts.ofA P l = true →
    (∀ (j : Nat) t v, l[j]? = some t → vs[j]? = some v → Value.okWide P w r b0 t v) → DataW.TrodAll enc P w base spare held l vs ds ps →
    ∃ d : ts.D, RTs (memOf w) ts d vs ∧ ts.Fit d ∧ ds.length = ts.len
  | .nil, [], vs, ds, ps, _, hv, h => by
    obtain ⟨rfl, rfl, _⟩ := trodAll_nil h
    exact ⟨(), RTs_nil.2 rfl, trivial, rfl⟩
  | .nil, _ :: _, _, _, _, ht, _, _ => by simp [Tys.ofA] at ht
  | .cons _ _, [], _, _, _, ht, _, _ => by simp [Tys.ofA] at ht
  | .cons τ ts, t :: l, vs, ds, ps, ht, hv, h => by
    rw [Tys.ofA, Bool.and_eq_true] at ht
    obtain ⟨v, vs', d, ds', p, q, rfl, rfl, rfl, h0, h1⟩ := trodAll_cons h
    obtain ⟨x, x1, x2⟩ := open_arg ht.1 (hv 0 t v rfl rfl) h0
    obtain ⟨y, y1, y2, y3⟩ := open_args ts l vs' ds' q ht.2 (fun j t' v' hj hv' => hv (j + 1) t' v' hj hv') h1
    exact ⟨(x, y), RTs_cons.2 ⟨v, vs', rfl, x1, y1⟩, ⟨x2, y2⟩, by rw [List.length_cons, y3, Tys.len]⟩
/-- The arguments read behind the call as they did ahead of it. -/
theorem below_trodAll (hl : laidOutB P = true) {W W' : World} (hb : Below W.heap.size W W') : ∀ {l : List TypeId} {vs : List Value} {ds : List (DataW H)} {ps : List MemPlace}, (∀ t ∈ l, P.readableRec t = true ∧ t < P.types.size) →
    DataW.TrodAll enc P W 0 (fun _ => true) true l vs ds ps → (∀ x ∈ ps, x.block < W.heap.size) → DataW.TrodAll enc P W' 0 (fun b => decide (b < W.heap.size)) true l vs ds ps
  | [], [], [], _, _, h, _ => h
  | [], _ :: _, _, _, _, h, _ => h.elim
  | [], [], _ :: _, _, _, h, _ => h.elim
  | _ :: _, [], _, _, _, h, _ => h.elim
  | _ :: _, _ :: _, [], _, _, h, _ => h.elim
  | t :: l, v :: vs, d :: ds, ps, hr, h, hlt => by
    obtain ⟨p, q, h0, h1, rfl⟩ := h
    exact ⟨p, q, Below.trod hl (hr t (List.mem_cons_self ..)).1 (hr t (List.mem_cons_self ..)).2 h0 hb (fun x hx => hlt x (List.mem_append_left _ hx)),
      below_trodAll hl hb (fun t' ht' => hr t' (List.mem_cons_of_mem _ ht')) h1 (fun x hx => hlt x (List.mem_append_right _ hx)), rfl⟩
/-- A call that answers 'true' and turns nothing old meets the post of a law's row. -/
theorem post_of_below {f : Func} {s : ChangeSpec} {apart fresh handsOn : Bool} {W W' : World} {args : Array Value} {ds gs : List (DataW H)} {before : List MemPlace} {t : TypeId}
    (hl : laidOutB P = true) (hr : ∀ t ∈ f.params.toList, P.readableRec t = true ∧ t < P.types.size) (hv : varsRowed P s.vars = true) (hres : f.resultTypes.toList = [t]) (ht : P.underlying t = some .bool)
    (hW : DataW.Whole enc P f.params.toList s.vars apart W args.toList ds gs before) (hb : Below W.heap.size W W') (hfn : s.fn H (ds ++ gs) = { results := [.lit (.bool true)], args := ds, vars := gs }) :
    s.post enc P f apart fresh handsOn false W args (.bool true) W' := by
  obtain ⟨p, q, hA, hV, e, hz, hn⟩ := id hW
  have hlt : ∀ x ∈ before, x.block < W.heap.size := fun x hx => hW.lt x hx
  refine ⟨ds, gs, before, [], p, q, hW, ?_, ?_, ?_, hb.frame _, fun h => by cases h⟩
  · rw [hfn, hres]
    have : f.resultTypes.size = 1 := by rw [← Array.length_toList, hres]; rfl
    rw [this]
    exact ⟨[], [], shut_bool ht _, rfl, rfl⟩
  · rw [hfn]
    exact below_trodAll hl hb hr hA (fun x hx => hlt x (by rw [e]; exact List.mem_append_left _ hx))
  · rw [hfn]
    exact Below.trodVars hl hb hv hV
end Go.Evl
