/-
  The cells that count: what is collected in a map, and that they alone have the same slots.
  Conditions: none.
-/
import Derived.Test.YtbcihiehcekheaaDoorLaw14
namespace Go.Evl.Sh
open Go Go.Evl
set_option linter.unusedVariables false
set_option linter.unusedSimpArgs false

/-! ### The map -/
theorem keq_eq (a b : Cell) : cellTy.keq a b = true ↔ a = b := by
  show (eqI a.1 b.1 && (eqI a.2.1 b.2.1 && (eqI a.2.2.1 b.2.2.1 && (eqI a.2.2.2.1 b.2.2.2.1 && (eqI a.2.2.2.2.1 b.2.2.2.2.1 && true))))) = true ↔ a = b
  simp [eqI, Prod.ext_iff]
theorem keq_ne {a b : Cell} (h : a ≠ b) : cellTy.keq a b = false := by
  cases e : cellTy.keq a b with
  | false => rfl
  | true => exact absurd ((keq_eq a b).1 e) h
theorem keq_refl (a : Cell) : cellTy.keq a a = true := (keq_eq a a).2 rfl
theorem find_set (c d : Cell) (v : Bool) : ∀ es : List (Cell × Bool × Unit), findEnt (α := Cell) cellTy.keq c (setEnt (α := Cell) cellTy.keq d v es) = if c = d then some v else findEnt (α := Cell) cellTy.keq c es
  | [] => by
    by_cases h : c = d
    · subst h; rw [if_pos rfl]; simp only [setEnt, findEnt, keq_refl, cond_true]
    · rw [if_neg h]; simp only [setEnt, findEnt, keq_ne h, cond_false]
  | e :: r => by
    have ih := find_set c d v r
    by_cases h : c = d
    · subst h
      rw [if_pos rfl] at ih ⊢
      by_cases g : c = e.1
      · simp only [setEnt, g, keq_refl, cond_true, findEnt]
      · simp only [setEnt, keq_ne g, cond_false, findEnt, ih]
    · rw [if_neg h] at ih ⊢
      by_cases g : d = e.1
      · subst g
        simp only [setEnt, keq_refl, cond_true, findEnt, keq_ne h, cond_false]
      · simp only [setEnt, keq_ne g, cond_false, findEnt, ih]
theorem get_set (es : List (Cell × Bool × Unit)) (c d : Cell) (v z : Bool) : mGet (mSet es d v) c z = if c = d then v else mGet es c z := by
  show (findEnt (α := Cell) cellTy.keq c (setEnt (α := Cell) cellTy.keq d v es)).getD z = if c = d then v else (findEnt (α := Cell) cellTy.keq c es).getD z
  rw [find_set]
  split <;> rfl
/-- Cells are laid into a map. -/
def put (m : List (Cell × Bool × Unit)) (xs : List Cell) : List (Cell × Bool × Unit) := xs.foldl (fun m c => mSet m c true) m
theorem put_append (m : List (Cell × Bool × Unit)) (xs ys : List Cell) : put m (xs ++ ys) = put (put m xs) ys := by
  unfold put; rw [List.foldl_append]
theorem put_nil (m : List (Cell × Bool × Unit)) : put m [] = m := rfl
theorem put_cons (m : List (Cell × Bool × Unit)) (c : Cell) (xs : List Cell) : put m (c :: xs) = put (mSet m c true) xs := rfl
theorem get_put (c : Cell) : ∀ (xs : List Cell) (m : List (Cell × Bool × Unit)), mGet (put m xs) c false = (decide (c ∈ xs) || mGet m c false)
  | [], m => by simp [put_nil]
  | d :: xs, m => by
    rw [put_cons, get_put c xs, get_set]
    by_cases h : c = d
    · simp [h]
    · simp [h]

/-! ### The cells that count -/
def usedS (cs : List Cell) (L : Int) : Nat → Int → Nat → List Cell
  | 0, _, _ => []
  | m + 1, s, left => if left = 0 then [] else (cs.filter (inSlot L s)).take left ++ usedS cs L m (s + 1) (left - min left (cnt cs L s))
theorem min_filter {p : Cell → Bool} {ys : List Cell} {left : Nat} (h : ∀ c ∈ ys.take left, p c = true) : min left (ys.filter p).length = min left ys.length := by
  have h1 : ((ys.take left).filter p).length = min left ys.length := by
    rw [List.filter_eq_self.2 h, List.length_take]
  have h2 : (ys.filter p).length = ((ys.take left).filter p).length + ((ys.drop left).filter p).length := by
    rw [← List.length_append, ← List.filter_append, List.take_append_drop]
  have h3 := List.length_filter_le p ys
  omega
theorem cnt_filter {p : Cell → Bool} {cs : List Cell} {L s : Int} {left : Nat} (h : ∀ c ∈ (cs.filter (inSlot L s)).take left, p c = true) : min left (cnt (cs.filter p) L s) = min left (cnt cs L s) := by
  have e : (cs.filter p).filter (inSlot L s) = (cs.filter (inSlot L s)).filter p := by
    rw [List.filter_filter, List.filter_filter]
    congr 1; funext c; rw [Bool.and_comm]
  unfold cnt
  rw [e]
  exact min_filter h
theorem hopS_filter {p : Cell → Bool} {cs : List Cell} {L : Int} : ∀ (m : Nat) (s : Int) (left : Nat), (∀ c ∈ usedS cs L m s left, p c = true) → hopS (cs.filter p) L m s left = hopS cs L m s left
  | 0, _, _, _ => rfl
  | m + 1, s, left, h => by
    unfold hopS
    unfold usedS at h
    by_cases g : left = 0
    · rw [if_pos g, if_pos g]
    · rw [if_neg g] at h ⊢
      rw [if_neg g]
      have h1 := cnt_filter (p := p) (cs := cs) (L := L) (s := s) (left := left) (fun c hc => h c (List.mem_append_left _ hc))
      rw [h1, hopS_filter m (s + 1) _ (fun c hc => h c (List.mem_append_right _ hc))]
theorem usedS_mem {cs : List Cell} {L : Int} : ∀ (m : Nat) (s : Int) (left : Nat), ∀ c ∈ usedS cs L m s left, c ∈ cs
  | 0, _, _, c, h => by simp [usedS] at h
  | m + 1, s, left, c, h => by
    unfold usedS at h
    by_cases g : left = 0
    · rw [if_pos g] at h; simp at h
    · rw [if_neg g] at h
      rcases List.mem_append.1 h with h | h
      · exact (List.mem_filter.1 (List.mem_of_mem_take h)).1
      · exact usedS_mem m _ _ c h
theorem usedS_ne {cs : List Cell} {L : Int} : ∀ (m : Nat) (s : Int) (left : Nat), (hopS cs L m s left).1 ≠ [] → usedS cs L m s left ≠ []
  | 0, _, _, h => by simp [hopS] at h
  | m + 1, s, left, h => by
    unfold hopS at h
    unfold usedS
    by_cases g : left = 0
    · rw [if_pos g] at h; simp at h
    · rw [if_neg g] at h ⊢
      intro e
      obtain ⟨e1, e2⟩ := List.append_eq_nil_iff.1 e
      have hc : cnt cs L s = 0 := by
        unfold cnt
        cases hq : cs.filter (inSlot L s) with
        | nil => rfl
        | cons q qs =>
          rw [hq] at e1
          cases left with
          | zero => exact absurd rfl g
          | succ left => simp at e1
      rw [hc] at h
      refine usedS_ne m (s + 1) (left - min left (cnt cs L s)) ?_ e2
      rw [hc]
      simpa using h
/-- The cells that count on the links from one on. -/
def usedR (C : Nat → List Cell) (N : Nat → Nat) (L fin : Int) : Nat → Nat → Int → List Cell
  | 0, _, _ => []
  | m + 1, i, a =>
    if (hopS (C i) L (fin - a).toNat a (N i)).2 = 0 then
      usedS (C i) L (fin - a).toNat a (N i) ++ usedR C N L fin m (i + 1) (lastOr a (hopS (C i) L (fin - a).toNat a (N i)).1)
    else usedS (C i) L (fin - a).toNat a (N i)
theorem runS_filter {C : Nat → List Cell} {N : Nat → Nat} {L fin : Int} {p : Cell → Bool} : ∀ (m i : Nat) (a : Int), (∀ c ∈ usedR C N L fin m i a, p c = true) → runS (fun i => (C i).filter p) N L fin m i a = runS C N L fin m i a
  | 0, _, _, _ => rfl
  | m + 1, i, a, h => by
    unfold usedR at h
    unfold runS
    by_cases g : (hopS (C i) L (fin - a).toNat a (N i)).2 = 0
    · rw [if_pos g] at h
      have h1 := hopS_filter (p := p) _ _ _ (fun c hc => h c (List.mem_append_left _ hc))
      rw [h1, if_pos g, if_pos g, runS_filter m (i + 1) _ (fun c hc => h c (List.mem_append_right _ hc))]
    · rw [if_neg g] at h
      have h1 := hopS_filter (p := p) _ _ _ h
      rw [h1, if_neg g, if_neg g]
theorem usedR_mem {C : Nat → List Cell} {N : Nat → Nat} {L fin : Int} : ∀ (m i : Nat) (a : Int), ∀ c ∈ usedR C N L fin m i a, ∃ j, c ∈ C j
  | 0, _, _, c, h => by simp [usedR] at h
  | m + 1, i, a, c, h => by
    unfold usedR at h
    by_cases g : (hopS (C i) L (fin - a).toNat a (N i)).2 = 0
    · rw [if_pos g] at h
      rcases List.mem_append.1 h with h | h
      · exact ⟨i, usedS_mem _ _ _ c h⟩
      · exact usedR_mem m _ _ c h
    · rw [if_neg g] at h
      exact ⟨i, usedS_mem _ _ _ c h⟩
theorem usedR_ne {C : Nat → List Cell} {N : Nat → Nat} {L fin : Int} : ∀ (m i : Nat) (a : Int), (runS C N L fin m i a).1 ≠ [] → usedR C N L fin m i a ≠ []
  | 0, _, _, h => by simp [runS] at h
  | m + 1, i, a, h => by
    unfold runS at h
    unfold usedR
    by_cases g : (hopS (C i) L (fin - a).toNat a (N i)).2 = 0
    · rw [if_pos g] at h ⊢
      intro e
      obtain ⟨e1, e2⟩ := List.append_eq_nil_iff.1 e
      have h1 : (hopS (C i) L (fin - a).toNat a (N i)).1 = [] := Classical.byContradiction fun q => usedS_ne _ _ _ q e1
      have h2 := Classical.byContradiction fun q => usedR_ne m _ _ q e2
      rw [h1] at h
      exact h (by simpa [h1] using h2)
    · rw [if_neg g] at h ⊢
      exact usedS_ne _ _ _ h
/-- The releases. -/
def rels (L per : Int) : Nat → Int → List Int
  | 0, _ => []
  | m + 1, rel => if rel < L then rel :: rels L per m (rel + per) else []
theorem boundS_congr {S S' : Int → List Int × Bool} {L per : Int} : ∀ (m : Nat) (rel b a : Int) (sl : List Int), (∀ x ∈ rels L per m rel, S x = S' x) → boundS S L per m rel b a sl = boundS S' L per m rel b a sl
  | 0, _, _, _, _, _ => rfl
  | m + 1, rel, b, a, sl, h => by
    unfold boundS
    unfold rels at h
    by_cases g : rel < L
    · rw [if_pos g] at h ⊢
      rw [if_pos g, h rel (List.mem_cons_self ..)]
      have ih := fun b a sl => boundS_congr m (rel + per) b a sl (fun x hx => h x (List.mem_cons_of_mem _ hx))
      rw [ih, ih]
    · rw [if_neg g, if_neg g]
variable {n : Network} {s : Schedule} {f : Flow} {r : List Int}
def usedRel (n : Network) (s : Schedule) (f : Flow) (r : List Int) (rel : Int) : List Cell := usedR (legC s f r) (legN n r 0) s.1 (rel + f.2.2.2.1) (r.length - 1) 1 rel
def usedAll (n : Network) (s : Schedule) (f : Flow) (l : List (List Int)) : List Cell := l.flatMap fun r => (rels s.1 f.2.2.2.1 512 f.2.2.2.2.1).flatMap (usedRel n s f r)
/-- The schedule with the cells of a choice. -/
def only (s : Schedule) (p : Cell → Bool) : Schedule := (s.1, s.2.1, s.2.2.1.filter p, ())
theorem slots_only {p : Cell → Bool} {rel : Int} (h : ∀ c ∈ usedRel n s f r rel, p c = true) : slotsS n (only s p) f r 0 rel = slotsS n s f r 0 rel := by
  have e : legC (only s p) f r = fun i => (legC s f r i).filter p := by
    funext i
    show (s.2.2.1.filter p).filter _ = (s.2.2.1.filter _).filter p
    rw [List.filter_filter, List.filter_filter]
    congr 1; funext c; rw [Bool.and_comm]
  unfold slotsS
  rw [e]
  exact runS_filter _ _ _ h
theorem bound_only {p : Cell → Bool} (h : ∀ rel ∈ rels s.1 f.2.2.2.1 512 f.2.2.2.2.1, ∀ c ∈ usedRel n s f r rel, p c = true) : boundOf n (only s p) f r 0 = boundOf n s f r 0 := by
  unfold boundOf
  exact boundS_congr 512 _ _ _ _ fun x hx => slots_only (h x hx)
theorem usedRel_mem {rel : Int} {c : Cell} (h : c ∈ usedRel n s f r rel) : c ∈ s.2.2.1 ∧ c.2.2.2.2.1 = f.1 := by
  obtain ⟨j, hj⟩ := usedR_mem _ _ _ c h
  obtain ⟨h1, h2⟩ := List.mem_filter.1 hj
  unfold keeps at h2
  simp only [Bool.and_eq_true, beq_iff_eq] at h2
  exact ⟨h1, h2.1⟩
theorem usedAll_mem {l : List (List Int)} {c : Cell} (h : c ∈ usedAll n s f l) : c ∈ s.2.2.1 ∧ c.2.2.2.2.1 = f.1 := by
  obtain ⟨r, _, h⟩ := List.mem_flatMap.1 h
  obtain ⟨rel, _, h⟩ := List.mem_flatMap.1 h
  exact usedRel_mem h
end Go.Evl.Sh
