/-
  Laws of the combinators in which the functions of the program are written: tests, places of a list, loops.
  Conditions: none.
-/
import Derived.Test.YtbcihiehcekheaaDoorRelSh
namespace Go.Evl.Sh
open Go Go.Evl
set_option linter.unusedVariables false

theorem obind_some {α β : Type} (a : α) (f : α → Option β) : obind (some a) f = f a := rfl
theorem obind_none {α β : Type} (f : α → Option β) : obind (none : Option α) f = none := rfl
theorem tst_true {β : Type} (x y : Option β) : tst true x y = x := rfl
theorem tst_false {β : Type} (x y : Option β) : tst false x y = y := rfl
theorem tst_dec {β : Type} (p : Prop) [Decidable p] (x y : Option β) : tst (decide p) x y = if p then x else y := by
  by_cases h : p <;> simp [h, tst]
theorem tst_bool {β : Type} (b : Bool) (x y : Option β) : tst b x y = if b = true then x else y := by cases b <;> rfl
theorem tst_beq {β : Type} (a b : Int) (x y : Option β) : tst (a == b) x y = if a = b then x else y := by
  by_cases h : a = b
  · rw [beq_iff_eq.2 h, if_pos h]; rfl
  · rw [beq_false_of_ne h, if_neg h]; rfl
theorem tst_not {β : Type} (b : Bool) (x y : Option β) : tst (!b) x y = tst b y x := by cases b <;> rfl
theorem tst_same {β : Type} (b : Bool) (x : Option β) : tst b x x = x := by cases b <;> rfl
theorem loopK_succ {T β : Type} (F : (T → Option β) → T → Option β) (k : Nat) (t : T) : loopK F (k + 1) t = F (loopK F k) t := rfl

/-- A number of 64 bits. -/
def In64 (n : Int) : Prop := -9223372036854775808 ≤ n ∧ n ≤ 9223372036854775807
theorem w64_of {n : Int} (h : In64 n) : w64 n = n := by
  obtain ⟨h1, h2⟩ := h
  unfold w64
  unfold IntKind.wrap
  simp [IntKind.bits, IntKind.signed]
  omega
theorem ix_nat {α : Type} (xs : List α) (i : Nat) : ix xs (i : Int) = xs[i]? := by simp [ix]
theorem ix_neg {α : Type} (xs : List α) {n : Int} (h : n < 0) : ix xs n = none := by simp [ix, Int.not_le.2 h]
theorem ix_lt {α : Type} (xs : List α) {i : Nat} (h : i < xs.length) : ix xs (i : Int) = some xs[i] := by rw [ix_nat, List.getElem?_eq_getElem h]
theorem ix_some {α : Type} {xs : List α} {n : Int} {x : α} (h : ix xs n = some x) : 0 ≤ n ∧ n.toNat < xs.length ∧ xs[n.toNat]? = some x := by
  unfold ix at h
  split at h
  · rename_i h0
    exact ⟨h0, (List.getElem?_eq_some_iff.1 h).1, h⟩
  · cases h
theorem ix_ex {α : Type} (xs : List α) {n : Int} (h0 : 0 ≤ n) (h1 : n < xs.length) : ∃ x, ix xs n = some x ∧ xs[n.toNat]? = some x := by
  have : n.toNat < xs.length := by omega
  exact ⟨xs[n.toNat], by unfold ix; rw [if_pos h0, List.getElem?_eq_getElem this], List.getElem?_eq_getElem this⟩

/-- What a loop over places comes to: the first place that stops it, or what stands behind it. -/
def scan {β : Type} (stop : Nat → Option (Option β)) (fin : Option β) : Nat → Nat → Option β
  | 0, _ => fin
  | m + 1, i => match stop i with
    | some r => r
    | none => scan stop fin m (i + 1)
theorem loop_scan {T β : Type} {F : (T → Option β) → T → Option β} {st : Nat → T} {n : Nat} {stop : Nat → Option (Option β)} {fin : Option β}
    (h : ∀ (rec : T → Option β) (i : Nat), i < n → F rec (st i) = match stop i with
      | some r => r
      | none => rec (st (i + 1))) (hf : ∀ rec : T → Option β, F rec (st n) = fin) :
    ∀ (m i k : Nat), i + m = n → m < k → loopK F k (st i) = scan stop fin m i
  | 0, i, k, hi, hk => by
    obtain ⟨k, rfl⟩ : ∃ k', k = k' + 1 := ⟨k - 1, by omega⟩
    have : i = n := by omega
    subst this
    rw [loopK_succ, hf]; rfl
  | m + 1, i, k, hi, hk => by
    obtain ⟨k, rfl⟩ : ∃ k', k = k' + 1 := ⟨k - 1, by omega⟩
    rw [loopK_succ, h _ i (by omega)]
    simp only [scan]
    cases stop i with
    | some r => rfl
    | none => exact loop_scan h hf m (i + 1) k (by omega) (by omega)
theorem scan_none {β : Type} {stop : Nat → Option (Option β)} {fin : Option β} : ∀ (m i : Nat), (∀ j, i ≤ j → j < i + m → stop j = none) → scan stop fin m i = fin
  | 0, _, _ => rfl
  | m + 1, i, h => by
    simp only [scan]
    rw [h i (by omega) (by omega)]
    exact scan_none m (i + 1) (fun j h1 h2 => h j (by omega) (by omega))
theorem scan_first {β : Type} {stop : Nat → Option (Option β)} {fin r : Option β} : ∀ (m i j : Nat), i ≤ j → j < i + m → (∀ q, i ≤ q → q < j → stop q = none) → stop j = some r → scan stop fin m i = r
  | 0, i, j, h1, h2, _, _ => by omega
  | m + 1, i, j, h1, h2, h3, h4 => by
    simp only [scan]
    by_cases e : i = j
    · subst e; rw [h4]
    · rw [h3 i (by omega) (by omega)]
      exact scan_first m (i + 1) j (by omega) (by omega) (fun q h5 h6 => h3 q (by omega) h6) h4
/-- The first number that is not zero. -/
def firstErr (f : Nat → Int) : Nat → Nat → Int
  | 0, _ => 0
  | m + 1, i => if f i = 0 then firstErr f m (i + 1) else f i
theorem firstErr_zero {f : Nat → Int} : ∀ (m i : Nat), firstErr f m i = 0 ↔ ∀ j, i ≤ j → j < i + m → f j = 0
  | 0, i => by simp only [firstErr, true_iff]; intro j h1 h2; omega
  | m + 1, i => by
    simp only [firstErr]
    by_cases h : f i = 0
    · rw [if_pos h, firstErr_zero m (i + 1)]
      constructor
      · intro g j h1 h2
        by_cases e : j = i
        · rw [e]; exact h
        · exact g j (by omega) (by omega)
      · intro g j h1 h2; exact g j (by omega) (by omega)
    · rw [if_neg h]
      exact ⟨fun e => absurd e h, fun g => g i (Nat.le_refl _) (by omega)⟩
theorem scan_err {f : Nat → Int} {stop : Nat → Option (Option Int)} : ∀ (m i : Nat), (∀ j, i ≤ j → j < i + m → stop j = if f j = 0 then none else some (some (f j))) → scan stop (some 0) m i = some (firstErr f m i)
  | 0, _, _ => rfl
  | m + 1, i, h => by
    simp only [scan, firstErr]
    rw [h i (by omega) (by omega)]
    by_cases e : f i = 0
    · rw [if_pos e, if_pos e]
      exact scan_err m (i + 1) (fun j h1 h2 => h j (by omega) (by omega))
    · rw [if_neg e, if_neg e]
theorem firstErr_congr {f g : Nat → Int} : ∀ (m i : Nat), (∀ j, i ≤ j → j < i + m → f j = g j) → firstErr f m i = firstErr g m i
  | 0, _, _ => rfl
  | m + 1, i, h => by
    simp only [firstErr]
    rw [h i (by omega) (by omega), firstErr_congr m (i + 1) (fun j h1 h2 => h j (by omega) (by omega))]
/-- A loop that goes on from round to round, each with what the rounds before it have made. -/
theorem loop_go {T β : Type} {F : (T → Option β) → T → Option β} {st : Nat → T} {n : Nat} {fin : Option β}
    (h : ∀ (rec : T → Option β) (i : Nat), i < n → F rec (st i) = rec (st (i + 1))) (hf : ∀ rec : T → Option β, F rec (st n) = fin) {k : Nat} (hk : n < k) : loopK F k (st 0) = fin := by
  rw [loop_scan (stop := fun _ => none) (fun rec i hi => h rec i hi) hf n 0 k (by omega) hk]
  exact scan_none n 0 (fun _ _ _ => rfl)
/-- A loop that looks for the first place with a mark. -/
theorem loop_find {T β : Type} {F : (T → Option β) → T → Option β} {st : Nat → T} {n : Nat} {P : Nat → Prop} [DecidablePred P] {r : Nat → Option β} {fin : Option β}
    (h : ∀ (rec : T → Option β) (i : Nat), i < n → F rec (st i) = if P i then r i else rec (st (i + 1))) (hf : ∀ rec : T → Option β, F rec (st n) = fin) {k : Nat} (hk : n < k) :
    ((∀ i, i < n → ¬ P i) → loopK F k (st 0) = fin) ∧ ∀ j, j < n → P j → (∀ i, i < j → ¬ P i) → loopK F k (st 0) = r j := by
  have e := loop_scan (stop := fun i => if P i then some (r i) else none) (fun rec i hi => by rw [h rec i hi]; by_cases hp : P i <;> simp [hp]) hf n 0 k (by omega) hk
  refine ⟨fun hn => ?_, fun j hj hp hb => ?_⟩
  · rw [e]; exact scan_none n 0 (fun j _ hj => if_neg (hn j (by omega)))
  · rw [e]; exact scan_first n 0 j (Nat.zero_le _) (by omega) (fun q _ hq => if_neg (hb q hq)) (if_pos hp)
/-- The first one of those that there are. -/
theorem first_of {P : Nat → Prop} {n : Nat} (h : ∃ j, j < n ∧ P j) : ∃ j, j < n ∧ P j ∧ ∀ i, i < j → ¬ P i := by
  obtain ⟨j, hj, hp⟩ := h
  induction j using Nat.strongRecOn with
  | _ j ih =>
    by_cases hb : ∃ i, i < j ∧ P i
    · obtain ⟨i, hi, hpi⟩ := hb
      exact ih i hi (by omega) hpi
    · exact ⟨j, hj, hp, fun i hi hpi => hb ⟨i, hi, hpi⟩⟩
/-- The same where each place that has the mark gives the same. -/
theorem loop_any {T β : Type} {F : (T → Option β) → T → Option β} {st : Nat → T} {n : Nat} {P : Nat → Prop} [DecidablePred P] {r fin : Option β}
    (h : ∀ (rec : T → Option β) (i : Nat), i < n → F rec (st i) = if P i then r else rec (st (i + 1))) (hf : ∀ rec : T → Option β, F rec (st n) = fin) {k : Nat} (hk : n < k) :
    ((∀ i, i < n → ¬ P i) → loopK F k (st 0) = fin) ∧ ((∃ i, i < n ∧ P i) → loopK F k (st 0) = r) := by
  obtain ⟨h1, h2⟩ := loop_find (r := fun _ => r) h hf hk
  refine ⟨h1, fun hx => ?_⟩
  obtain ⟨j, hj, hp, hb⟩ := first_of hx
  exact h2 j hj hp hb
/-- A loop over a list that ends alike at each element of a kind. -/
theorem loop_list {T β α : Type} {F : (T → Option β) → T → Option β} {st : Nat → T} {xs : List α} {bad : α → Prop} [DecidablePred bad] {r fin : Option β}
    (h : ∀ (rec : T → Option β) (i : Nat) (hi : i < xs.length), F rec (st i) = if bad xs[i] then r else rec (st (i + 1))) (hf : ∀ rec : T → Option β, F rec (st xs.length) = fin) {k : Nat} (hk : xs.length < k) :
    loopK F k (st 0) = if (∃ x ∈ xs, bad x) then r else fin := by
  have hd : ∀ i (hi : i < xs.length), (∃ hi : i < xs.length, bad xs[i]) ↔ bad xs[i] := fun i hi => ⟨fun ⟨_, h⟩ => h, fun h => ⟨hi, h⟩⟩
  classical
  obtain ⟨h1, h2⟩ := loop_any (P := fun i => ∃ hi : i < xs.length, bad xs[i]) (r := r) (fin := fin) (fun rec i hi => by
    rw [h rec i hi]
    by_cases hb : bad xs[i]
    · rw [if_pos hb, if_pos ⟨hi, hb⟩]
    · rw [if_neg hb, if_neg (fun q => hb ((hd i hi).1 q))]) hf hk
  by_cases hx : ∃ x ∈ xs, bad x
  · rw [if_pos hx]
    obtain ⟨x, hx, hb⟩ := hx
    obtain ⟨i, hi, rfl⟩ := List.mem_iff_getElem.1 hx
    exact h2 ⟨i, hi, hi, hb⟩
  · rw [if_neg hx]
    exact h1 (fun i hi ⟨_, hb⟩ => hx ⟨_, List.getElem_mem hi, hb⟩)
/-- A loop that ends with 'no' at the first place with a mark, else with 'yes'. -/
theorem loop_yes {T : Type} {F : (T → Option Bool) → T → Option Bool} {st : Nat → T} {n : Nat} {P : Nat → Prop}
    (h : ∀ (rec : T → Option Bool) (i : Nat), i < n → (P i → F rec (st i) = some false) ∧ (¬ P i → F rec (st i) = rec (st (i + 1)))) (hf : ∀ rec : T → Option Bool, F rec (st n) = some true) {k : Nat} (hk : n < k) :
    ∃ b, loopK F k (st 0) = some b ∧ (b = true ↔ ∀ i, i < n → ¬ P i) := by
  classical
  obtain ⟨h1, h2⟩ := loop_any (P := P) (r := some false) (fun rec i hi => by
    by_cases hp : P i
    · rw [if_pos hp]; exact (h rec i hi).1 hp
    · rw [if_neg hp]; exact (h rec i hi).2 hp) hf hk
  by_cases hx : ∃ i, i < n ∧ P i
  · refine ⟨false, h2 hx, by simp, fun g => ?_⟩
    obtain ⟨i, hi, hp⟩ := hx
    exact absurd hp (g i hi)
  · exact ⟨true, h1 fun i hi hp => hx ⟨i, hi, hp⟩, fun _ i hi hp => hx ⟨i, hi, hp⟩, fun _ => rfl⟩
/-- A length of a slice. -/
def Len {α : Type} (xs : List α) : Prop := xs.length ≤ 9223372036854775807
theorem In64.nat {n : Nat} (h : n ≤ 9223372036854775807) : In64 (n : Int) := ⟨by omega, by omega⟩
theorem w64_succ {n : Nat} (h : n < 9223372036854775807) : w64 ((n : Int) + 1) = ((n + 1 : Nat) : Int) := by
  rw [w64_of ⟨by omega, by omega⟩]; omega
end Go.Evl.Sh
