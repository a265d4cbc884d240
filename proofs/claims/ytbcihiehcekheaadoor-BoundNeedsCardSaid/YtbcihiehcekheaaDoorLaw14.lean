/-
  Least and Slack: what both packages answer; BoundLeast.
  Conditions: none.
-/
import Derived.Test.YtbcihiehcekheaaDoorLaw13
namespace Go.Evl.Sh
open Go Go.Evl
set_option linter.unusedVariables false
set_option linter.unusedSimpArgs false
variable {n : Network} {s : Schedule} {f : Flow} {r : List Int} {more : Int}

/-! ### No fault of a route is 'late' -/
def NE (o : Option Int) : Prop := o ≠ some 15
theorem NE.tst {b : Bool} {x y : Option Int} (hx : NE x) (hy : NE y) : NE (tst b x y) := by cases b <;> assumption
theorem NE.obind {α : Type} {o : Option α} {g : α → Option Int} (h : ∀ a, NE (g a)) : NE (obind o g) := by
  cases o with
  | none => exact fun q => by cases q
  | some a => exact h a
theorem NE.loop {T : Type} {F : (T → Option Int) → T → Option Int} (h : ∀ rec : T → Option Int, (∀ t, NE (rec t)) → ∀ t, NE (F rec t)) : ∀ (k : Nat) (t : T), NE (loopK F k t)
  | 0, t => fun q => by cases q
  | k + 1, t => by rw [loopK_succ]; exact h _ (NE.loop h k) t
theorem NE.lit {c : Int} (h : c ≠ 15) : NE (some c) := fun q => h (Option.some.inj q)
theorem ends_ne (k : Nat) (a b : Int) : NE (ref33_ends k n a b) := by
  unfold ref33_ends
  refine NE.obind fun _ => NE.tst (NE.lit (by decide)) (NE.obind fun _ => NE.tst (NE.lit (by decide)) (NE.obind fun _ => NE.tst (NE.lit (by decide)) (NE.tst (NE.lit (by decide)) (NE.lit (by decide)))))
theorem fault_ne (k : Nat) (a b : Int) (r : List Int) : NE (ref33_fault k n a b r) := by
  unfold ref33_fault
  refine NE.tst (NE.lit (by decide)) (NE.tst (NE.lit (by decide)) ?_)
  unfold ref33_fault_l0
  refine NE.loop (fun rec h t => NE.tst (NE.obind fun _ => NE.obind fun _ => NE.tst (NE.lit (by decide)) (h _)) (NE.obind fun _ => NE.tst (NE.lit (by decide)) (NE.obind fun _ => NE.tst (NE.lit (by decide)) ?_))) _ _
  unfold ref33_fault_l1
  refine NE.loop (fun rec h t => NE.tst ?_ ?_) _ _
  · unfold ref33_fault_l2
    exact NE.loop (fun rec' h' t => NE.tst (NE.obind fun _ => NE.obind fun _ => NE.tst (NE.lit (by decide)) (h' _)) (h _)) _ _
  · unfold ref33_fault_l3
    exact NE.loop (fun rec' h' t => NE.tst (NE.obind fun _ => NE.obind fun _ => NE.obind fun _ => NE.tst (NE.lit (by decide)) (h' _)) (NE.lit (by decide))) _ _
theorem check33_ne (k : Nat) (a b : Int) (r : List Int) : NE (ref33_Check k n a b r) := by
  unfold ref33_Check
  have h := ends_ne (n := n) k a b
  cases e : ref33_ends k n a b with
  | none => exact fun q => by cases q
  | some v =>
    rw [obind_some]
    refine NE.tst ?_ ?_
    · intro q; rw [Option.some.inj q] at e; exact h e
    · have h2 := fault_ne (n := n) k a b r
      cases e2 : ref33_fault k n a b r with
      | none => exact fun q => by cases q
      | some v => rw [obind_some, ← e2]; exact h2
theorem Fault_ne (k : Nat) (n : Network) (s : Schedule) (f : Flow) (r : List Int) : NE (ref37_Fault k n s f r) := by
  unfold ref37_Fault
  refine NE.obind fun _ => NE.tst (NE.lit (by decide)) (NE.obind fun _ => NE.tst (NE.lit (by decide)) (NE.obind fun _ => NE.tst (NE.lit (by decide)) (NE.tst (NE.tst (NE.lit (by decide)) ?_) (fun q => by cases q))))
  have h := check33_ne (n := n) k f.2.1 f.2.2.1 r
  cases e2 : ref33_Check k n f.2.1 f.2.2.1 r with
  | none => exact fun q => by cases q
  | some v => rw [obind_some, ← e2]; exact h
/-! ### Slack -/
/-- The greatest number of further attempts, from one on. -/
def slackS (fits : Int → Bool) : Nat → Int → Int
  | 0, j => j
  | m + 1, j => bif fits (j + 1) then slackS fits m (j + 1) else j
theorem slackS_succ (fits : Int → Bool) (m : Nat) (j : Int) : slackS fits (m + 1) j = bif fits (j + 1) then slackS fits m (j + 1) else j := rfl
def fitsB (n : Network) (s : Schedule) (f : Flow) (r : List Int) (k : Int) : Bool := (boundOf n s f r k).2.2.2.1 && decide ((boundOf n s f r k).1 ≤ f.2.2.2.2.2.1)
theorem slack_loop {k : Nat} (hk : Fuel k) (hf : NetFit n) (ha : AllOk n s f r) : ∀ (m k' : Nat) (j mo : Int), j + m = 7 → 0 ≤ j → m < k' →
    bound_Slack_l0 k k' (f, j, n.1, n.2.1, n.2.2.1, n.2.2.2.1, n.2.2.2.2.1, n.2.2.2.2.2.1, s.1, s.2.1, s.2.2.1, f.1, f.2.1, f.2.2.1, f.2.2.2.1, f.2.2.2.2.1, f.2.2.2.2.2.1, r, mo, ()) = some (slackS (fitsB n s f r) m j, 0, ())
  | 0, k', j, mo, hj, h0, hk' => by
    obtain ⟨k', rfl⟩ : ∃ q, k' = q + 1 := ⟨k' - 1, by omega⟩
    unfold bound_Slack_l0
    rw [loopK_succ, tst_neg (by simp only; omega)]
    rfl
  | m + 1, k', j, mo, hj, h0, hk' => by
    obtain ⟨k', rfl⟩ : ∃ q, k' = q + 1 := ⟨k' - 1, by omega⟩
    have ih := slack_loop hk hf ha m k' (j + 1) (j + 1) (by omega) (by omega) (by omega)
    have hb := bound_eq hk hf ha (more := j + 1) ⟨by omega, by omega⟩
    unfold mkWay at hb
    unfold bound_Slack_l0 at ih ⊢
    rw [loopK_succ, tst_pos (by simp only; omega)]
    simp only [w64_of (show In64 (j + 1) from ⟨by omega, by omega⟩), hb, obind_some, ih]
    rw [slackS_succ, show fitsB n s f r (j + 1) = ((boundOf n s f r (j + 1)).2.2.2.1 && decide ((boundOf n s f r (j + 1)).1 ≤ f.2.2.2.2.2.1)) from rfl]
    cases (boundOf n s f r (j + 1)).2.2.2.1 with
    | false => simp only [tst_false, Bool.false_and, cond_false]
    | true =>
      simp only [tst_true, Bool.true_and]
      by_cases h : (boundOf n s f r (j + 1)).1 ≤ f.2.2.2.2.2.1
      · rw [tst_t (decide_eq_true h), decide_eq_true h]; rfl
      · rw [tst_f (decide_eq_false h), decide_eq_false h]; rfl
theorem slack_ref {k : Nat} (hk : Fuel k) (hf : NetFit n) (ha : AllOk n s f r) {κ0 : ((List Int) × Network × Schedule × Flow × Int × Int × Unit) → Option (Int × Int × Unit)} {K : Int → Option (Int × Int × Unit)}
    (h0 : ∀ t, κ0 t = K t.2.2.2.2.1) : ∀ (m k' : Nat) (j : Int), j + m = 7 → -1 ≤ j → m + 1 < k' →
    ref37_Slack_l0 k κ0 k' (r, n, s, f, j, j + 1, ()) = K (slackS (fitsB n s f r) m j)
  | 0, k', j, hj, hj0, hk' => by
    obtain ⟨k', rfl⟩ : ∃ q, k' = q + 1 := ⟨k' - 1, by omega⟩
    unfold ref37_Slack_l0
    rw [loopK_succ, tst_neg (by simp only; omega), h0]
    rfl
  | m + 1, k', j, hj, hj0, hk' => by
    obtain ⟨k', rfl⟩ : ∃ q, k' = q + 1 := ⟨k' - 1, by omega⟩
    have ih := slack_ref hk hf ha h0 m k' (j + 1) (by omega) (by omega) (by omega)
    have hb := most_eq hk hf ha (more := j + 1) ⟨by omega, by omega⟩
    unfold ref37_Slack_l0 at ih ⊢
    rw [loopK_succ, tst_pos (by simp only; omega)]
    simp only [w64_of (show In64 (j + 1 + 1) from ⟨by omega, by omega⟩), hb, obind_some, ih]
    rw [slackS_succ, show fitsB n s f r (j + 1) = ((boundOf n s f r (j + 1)).2.2.2.1 && decide ((boundOf n s f r (j + 1)).1 ≤ f.2.2.2.2.2.1)) from rfl]
    cases (boundOf n s f r (j + 1)).2.2.2.1 with
    | false =>
      simp only [tst_not, tst_false, Bool.false_and, cond_false]
      exact h0 _
    | true =>
      simp only [tst_not, tst_true, Bool.true_and]
      by_cases h : (boundOf n s f r (j + 1)).1 ≤ f.2.2.2.2.2.1
      · rw [tst_f (decide_eq_false (by omega)), decide_eq_true h]; rfl
      · rw [tst_t (decide_eq_true (by omega)), decide_eq_false h]; exact h0 _
theorem slackS_ge {fits : Int → Bool} : ∀ (m : Nat) (j : Int), j ≤ slackS fits m j
  | 0, j => Int.le_refl j
  | m + 1, j => by
    unfold slackS
    cases fits (j + 1) with
    | false => exact Int.le_refl j
    | true => have := slackS_ge (fits := fits) m (j + 1); rw [cond_true]; omega
/-- Both packages' Slack: the same. -/
theorem Slack_eq {k : Nat} (hk : Fuel k) (hf : NetFit n) (hp : In64 f.2.2.2.1) (hr : Len r) : ∃ (a e : Int), bound_Slack k n s f r = some (a, e, ()) ∧ ref37_Slack k n s f r = some (a, e, ()) := by
  obtain ⟨e, e1, e2, e3⟩ := check_eq hk hf (s := s) (f := f) hp hr 0
  unfold mkWay at e1
  unfold bound_Slack ref37_Slack
  rw [e1, e2]
  simp only [obind_some, tst_not, tst_beq]
  by_cases h : e = 0
  rotate_left
  · simp only [if_neg h]
    exact ⟨_, _, rfl, rfl⟩
  have ha := e3 h
  have hb := bound_eq hk hf ha (more := 0) ⟨by omega, by omega⟩
  unfold mkWay at hb
  simp only [if_pos h, hb, obind_some]
  have hr := slack_ref hk hf ha (κ0 := fun t2 =>
    tst (decide (t2.2.2.2.2.1 < 0))
      (some (0, 15, ()))
      (some (t2.2.2.2.2.1, 0, ()))) (K := fun v => tst (decide (v < 0)) (some (0, 15, ())) (some (v, 0, ()))) (fun _ => rfl) 8 k (-1) (by omega) (by omega) (by unfold Fuel at hk; omega)
  rw [show (-1 : Int) + 1 = 0 by decide] at hr
  rw [hr, slack_loop hk hf ha 7 k 0 0 (by omega) (by omega) (by unfold Fuel at hk; omega)]
  have e8 : slackS (fitsB n s f r) 8 (-1) = bif fitsB n s f r 0 then slackS (fitsB n s f r) 7 0 else -1 := rfl
  rw [e8, show fitsB n s f r 0 = ((boundOf n s f r 0).2.2.2.1 && decide ((boundOf n s f r 0).1 ≤ f.2.2.2.2.2.1)) from rfl]
  cases (boundOf n s f r 0).2.2.2.1 with
  | false => exact ⟨_, _, rfl, rfl⟩
  | true =>
    simp only [tst_true, Bool.true_and]
    by_cases h : (boundOf n s f r 0).1 ≤ f.2.2.2.2.2.1
    · have g := slackS_ge (fits := fitsB n s f r) 7 0
      rw [decide_eq_true h, cond_true, tst_neg (show ¬ slackS (fitsB n s f r) 7 0 < 0 by omega)]
      exact ⟨_, _, rfl, rfl⟩
    · rw [decide_eq_false h, cond_false]
      exact ⟨_, _, rfl, rfl⟩
/-! ### Least -/
/-- The least bound of some routes. -/
def leastS (B : Nat → Int × Int × (List Int) × Bool × Unit) : Nat → Nat → Int → Int
  | 0, _, b => b
  | m + 1, i, b => leastS B m (i + 1) (bif (B i).2.2.2.1 && ((b == 0) || decide ((B i).1 < b)) then (B i).1 else b)
theorem firstErr_succ (f : Nat → Int) (m i : Nat) : firstErr f (m + 1) i = if f i = 0 then firstErr f m (i + 1) else f i := rfl
theorem leastS_succ (B : Nat → Int × Int × (List Int) × Bool × Unit) (m i : Nat) (b : Int) : leastS B (m + 1) i b = leastS B m (i + 1) (bif (B i).2.2.2.1 && ((b == 0) || decide ((B i).1 < b)) then (B i).1 else b) := rfl
theorem least_l0 {k : Nat} (hk : Fuel k) {l : List (List Int)} (hl : l.length ≤ 1000) {E : Nat → Int} (hE : ∀ i r, l[i]? = some r → bound_way_check k (mkWay n s f r 0) = some (E i))
    {κ1 : ((List (List Int)) × Network × Schedule × Flow × (List (List Int)) × Int × Int × Unit) → Option (Int × Int × Unit)} :
    ∀ (m i k' : Nat), i + m = l.length → m < k' →
      bound_Least_l0 k κ1 k' (l, n, s, f, l, (l.length : Int), (i : Int), ()) = if firstErr E m i = 0 then κ1 (l, n, s, f, l, (l.length : Int), (l.length : Int), ()) else some (0, firstErr E m i, ())
  | 0, i, k', hi, hk' => by
    obtain ⟨k', rfl⟩ : ∃ q, k' = q + 1 := ⟨k' - 1, by omega⟩
    have : i = l.length := by omega
    subst this
    unfold bound_Least_l0
    rw [loopK_succ, tst_neg (by simp only; omega)]
    simp [firstErr]
  | m + 1, i, k', hi, hk' => by
    obtain ⟨k', rfl⟩ : ∃ q, k' = q + 1 := ⟨k' - 1, by omega⟩
    have ih := least_l0 hk hl hE (κ1 := κ1) m (i + 1) k' (by omega) (by omega)
    have hlt : i < l.length := by omega
    have he := hE i l[i] (List.getElem?_eq_getElem hlt)
    unfold mkWay at he
    unfold bound_Least_l0 at ih ⊢
    rw [loopK_succ, tst_pos (by simp only; omega)]
    simp only [ix_lt _ hlt, obind_some, he, w64_succ (show i < 9223372036854775807 by omega), ih]
    rw [tst_not, tst_beq, firstErr_succ]
    by_cases h : E i = 0
    · simp only [if_pos h]
    · simp only [if_neg h]
theorem least_l1 {k : Nat} (hk : Fuel k) {l : List (List Int)} (hl : l.length ≤ 1000) {B : Nat → Int × Int × (List Int) × Bool × Unit} (hB : ∀ i r, l[i]? = some r → bound_way_bound k (mkWay n s f r 0) = some (B i))
    {κ0 : (Network × Schedule × Flow × Int × (List (List Int)) × Int × Int × Unit) → Option (Int × Int × Unit)} :
    ∀ (m i k' : Nat) (b : Int), i + m = l.length → m < k' →
      bound_Least_l1 k κ0 k' (n, s, f, b, l, (l.length : Int), (i : Int), ()) = κ0 (n, s, f, leastS B m i b, l, (l.length : Int), (l.length : Int), ())
  | 0, i, k', b, hi, hk' => by
    obtain ⟨k', rfl⟩ : ∃ q, k' = q + 1 := ⟨k' - 1, by omega⟩
    have : i = l.length := by omega
    subst this
    unfold bound_Least_l1
    rw [loopK_succ, tst_neg (by simp only; omega)]
    rfl
  | m + 1, i, k', b, hi, hk' => by
    obtain ⟨k', rfl⟩ : ∃ q, k' = q + 1 := ⟨k' - 1, by omega⟩
    have ih := fun b => least_l1 hk hl hB (κ0 := κ0) m (i + 1) k' b (by omega) (by omega)
    have hlt : i < l.length := by omega
    have he := hB i l[i] (List.getElem?_eq_getElem hlt)
    unfold mkWay at he
    unfold bound_Least_l1 at ih ⊢
    rw [loopK_succ, tst_pos (by simp only; omega)]
    simp only [ix_lt _ hlt, obind_some, he, w64_succ (show i < 9223372036854775807 by omega), ih]
    rw [leastS_succ]
    cases (B i).2.2.2.1 with
    | false => simp only [tst_false, Bool.false_and, cond_false]
    | true =>
      simp only [tst_true, Bool.true_and]
      cases hb : (b == 0) with
      | true => simp only [tst_true, Bool.true_or, cond_true]
      | false =>
        simp only [tst_false, Bool.false_or]
        cases hd : decide ((B i).1 < b) <;> rfl
theorem least_ref {k : Nat} (hk : Fuel k) {l : List (List Int)} (hl : l.length ≤ 1000) {E : Nat → Int} {B : Nat → Int × Int × (List Int) × Bool × Unit} (h15 : ∀ i, i < l.length → E i ≠ 15)
    (hR : ∀ i r, l[i]? = some r → ref37_Route k n s f r = some (if E i = 0 then (bif (B i).2.2.2.1 then ((B i).1, (B i).2.1, (B i).2.2.1, 0, ()) else (0, 0, [], 15, ())) else (0, 0, [], E i, ())))
    {κ0 : ((List (List Int)) × Network × Schedule × Flow × Int × Int × Unit) → Option (Int × Int × Unit)} :
    ∀ (m i k' : Nat) (b : Int), i + m = l.length → m < k' →
      ref37_Least_l0 k κ0 k' (l, n, s, f, b, (i : Int), ()) = if firstErr E m i = 0 then κ0 (l, n, s, f, leastS B m i b, (l.length : Int), ()) else some (0, firstErr E m i, ())
  | 0, i, k', b, hi, hk' => by
    obtain ⟨k', rfl⟩ : ∃ q, k' = q + 1 := ⟨k' - 1, by omega⟩
    have : i = l.length := by omega
    subst this
    unfold ref37_Least_l0
    rw [loopK_succ, tst_neg (by simp only [ln]; omega)]
    simp [firstErr, leastS]
  | m + 1, i, k', b, hi, hk' => by
    obtain ⟨k', rfl⟩ : ∃ q, k' = q + 1 := ⟨k' - 1, by omega⟩
    have ih := fun b => least_ref hk hl h15 hR (κ0 := κ0) m (i + 1) k' b (by omega) (by omega)
    have hlt : i < l.length := by omega
    have he := hR i l[i] (List.getElem?_eq_getElem hlt)
    have hn := h15 i hlt
    unfold ref37_Least_l0 at ih ⊢
    rw [loopK_succ, tst_pos (by simp only [ln]; omega)]
    simp only [ix_lt _ hlt, obind_some, he, w64_succ (show i < 9223372036854775807 by omega), ih]
    rw [firstErr_succ, leastS_succ]
    by_cases h : E i = 0
    · simp only [if_pos h]
      cases (B i).2.2.2.1 with
      | false => rfl
      | true =>
        simp only [cond_true, Bool.true_and]
        show tst (b == 0) _ (tst (decide ((B i).1 < b)) _ _) = _
        cases hb : (b == 0) with
        | true => rfl
        | false =>
          simp only [tst_false, Bool.false_or]
          cases hd : decide ((B i).1 < b) <;> rfl
    · simp only [if_neg h, tst_not, tst_beq, if_neg hn]
/-- Both packages' Least: the same. -/
theorem Least_eq {k : Nat} (hk : Fuel k) (hf : NetFit n) (hp : In64 f.2.2.2.1) {l : List (List Int)} (hl : l.length ≤ 1000) (hr : ∀ r ∈ l, Len r) : ∃ (a e : Int), bound_Least k n s f l = some (a, e, ()) ∧ ref37_Least k n s f l = some (a, e, ()) := by
  classical
  let E : Nat → Int := fun i => (ref37_Fault k n s f ((l[i]?).getD [])).getD 0
  let B : Nat → Int × Int × (List Int) × Bool × Unit := fun i => boundOf n s f ((l[i]?).getD []) 0
  have hE : ∀ i r, l[i]? = some r → bound_way_check k (mkWay n s f r 0) = some (E i) ∧ ref37_Fault k n s f r = some (E i) ∧ (E i = 0 → AllOk n s f r) := fun i r hi => by
    obtain ⟨e, e1, e2, e3⟩ := check_eq hk hf (s := s) (f := f) hp (hr r (List.mem_of_getElem? hi)) 0
    have : E i = e := by simp only [E, hi, Option.getD_some, e2]
    rw [this]
    exact ⟨e1, e2, e3⟩
  have h15 : ∀ i, i < l.length → E i ≠ 15 := fun i hi q => by
    have := (hE i _ (List.getElem?_eq_getElem hi)).2.1
    rw [q] at this
    exact Fault_ne k n s f _ this
  have hR : ∀ i r, l[i]? = some r → ref37_Route k n s f r = some (if E i = 0 then (bif (B i).2.2.2.1 then ((B i).1, (B i).2.1, (B i).2.2.1, 0, ()) else (0, 0, [], 15, ())) else (0, 0, [], E i, ())) := fun i r hi => by
    obtain ⟨e1, e2, e3⟩ := hE i r hi
    unfold ref37_Route
    rw [e2]
    simp only [obind_some, tst_not, tst_beq]
    by_cases h : E i = 0
    · have hb : B i = boundOf n s f r 0 := by simp only [B, hi, Option.getD_some]
      simp only [if_pos h, most_eq hk hf (e3 h) (more := 0) ⟨by omega, by omega⟩, obind_some, hb]
      cases (boundOf n s f r 0).2.2.2.1 <;> rfl
    · simp only [if_neg h]
  unfold bound_Least ref37_Least
  by_cases h0 : (ln l == 0) = true
  · rw [h0]; exact ⟨_, _, rfl, rfl⟩
  have h0' : (ln l == 0) = false := by simpa using h0
  rw [h0', tst_false, tst_false]
  have q1 := least_l0 (E := E) (κ1 := fun t1 =>
    bound_Least_l1 k
    (fun t5 =>
    tst (t5.2.2.2.1 == 0)
      (some (0, 15, ()))
      (some (t5.2.2.2.1, 0, ()))) k (t1.2.1, t1.2.2.1, t1.2.2.2.1, 0, t1.1, ln t1.1, 0, ())) hk hl (fun i r hi => (hE i r hi).1) l.length 0 k (by omega) (by unfold Fuel at hk; omega)
  have q2 := least_ref (E := E) (B := B) (κ0 := fun t1 =>
    tst (t1.2.2.2.2.1 == 0)
      (some (0, 15, ()))
      (some (t1.2.2.2.2.1, 0, ()))) hk hl h15 hR l.length 0 k 0 (by omega) (by unfold Fuel at hk; omega)
  have q1' := q1
  rw [show (l.length : Int) = ln l from rfl] at q1' 
  have z : ((0 : Nat) : Int) = 0 := rfl
  rw [z] at q1' q2
  rw [q1', q2]
  by_cases h : firstErr E l.length 0 = 0
  · rw [if_pos h, if_pos h]
    have hA : ∀ i r, l[i]? = some r → bound_way_bound k (mkWay n s f r 0) = some (B i) := fun i r hi => by
      have e0 : E i = 0 := (firstErr_zero l.length 0).1 h i (Nat.zero_le _) (by have := (List.getElem?_eq_some_iff.1 hi).1; omega)
      have hb : B i = boundOf n s f r 0 := by simp only [B, hi, Option.getD_some]
      rw [hb]
      exact bound_eq hk hf ((hE i r hi).2.2 e0) (more := 0) ⟨by omega, by omega⟩
    have q3 := least_l1 (B := B) (κ0 := fun t5 =>
    tst (t5.2.2.2.1 == 0)
      (some (0, 15, ()))
      (some (t5.2.2.2.1, 0, ()))) hk hl hA l.length 0 k 0 (by omega) (by unfold Fuel at hk; omega)
    refine ⟨if leastS B l.length 0 0 = 0 then 0 else leastS B l.length 0 0, if leastS B l.length 0 0 = 0 then 15 else 0, q3.trans ?_, ?_⟩
    · simp only [tst_beq]
      by_cases g : leastS B l.length 0 0 = 0
      · simp only [if_pos g]
      · simp only [if_neg g]
    · simp only [tst_beq]
      by_cases g : leastS B l.length 0 0 = 0
      · simp only [if_pos g]
      · simp only [if_neg g]
  · rw [if_neg h, if_neg h]
    exact ⟨_, _, rfl, rfl⟩
theorem few_end (a b : Int) : tst (decide (a ≤ 24)) (some (decide (b ≤ 3))) (some false) = some (true && (decide (a ≤ 24) && decide (b ≤ 3))) := by
  by_cases g : a ≤ 24
  · rw [tst_pos g, decide_eq_true g]; rfl
  · rw [tst_neg g, decide_eq_false g]; rfl
/-- The guard on sizes. -/
theorem Few37l {k : Nat} (hk : Fuel k) {n : Network} (hf : NetFit n) (s : Schedule) {l : List (List Int)} (hl : Len l) : ∃ b, ref37_Few k n s l = some b ∧ (b = true → s.2.2.1.length ≤ 24 ∧ l.length ≤ 3 ∧ ∀ r ∈ l, r.length ≤ 12) := by
  obtain ⟨b, hb⟩ := Few31 hk hf
  unfold Len at hl
  unfold ref37_Few ref37_Few_l0
  have e := loop_list (st := fun i => (l, n, s, (i : Int), ())) (xs := l) (bad := fun v => 12 < ln v) (r := some false) (fin := some (b && (decide (ln s.2.2.1 ≤ 24) && decide (ln l ≤ 3)))) (k := k) (F := fun rec0 (t1 : (List (List Int)) × Network × Schedule × Int × Unit) =>
    tst (decide (t1.2.2.2.1 < (ln t1.1)))
      (obind (ix t1.1 t1.2.2.2.1) fun v2 =>
      tst (decide (12 < (ln v2)))
        (some false)
        (rec0 (t1.1, t1.2.1, t1.2.2.1, w64 (t1.2.2.2.1 + 1), ())))
      ((fun t1 : (List (List Int)) × Network × Schedule × Int × Unit =>
    obind (ref31_Few k t1.2.1) fun v3 =>
    tst v3
      (tst (decide ((ln t1.2.2.1.2.2.1) ≤ 24))
        (some (decide ((ln t1.1) ≤ 3)))
        (some false))
      (some false)) t1)) (fun rec i hi => by
      simp only [tst_dec, show ((i : Int) < ln l) by (simp only [ln]; omega), if_true, ix_lt _ hi, obind_some, w64_succ (show i < 9223372036854775807 by omega)]) (fun rec => by
      simp only [ln, Int.lt_irrefl, decide_false, tst_false, hb, obind_some]
      cases b with
      | false => rfl
      | true =>
        rw [tst_true]
        exact few_end _ _) (by unfold Fuel at hk; omega)
  by_cases hx : ∃ x ∈ l, 12 < ln x
  · rw [if_pos hx] at e; exact ⟨_, e, by simp⟩
  · rw [if_neg hx] at e
    refine ⟨_, e, fun q => ?_⟩
    simp only [Bool.and_eq_true] at q
    have q1 : (s.2.2.1.length : Int) ≤ 24 := of_decide_eq_true q.2.1
    have q2 : (l.length : Int) ≤ 3 := of_decide_eq_true q.2.2
    exact ⟨by omega, by omega, fun r hr => Classical.byContradiction fun g => hx ⟨r, hr, by simp only [ln]; omega⟩⟩
/-- BoundLeast answers 'true'. -/
theorem BoundLeast_true (hf : NetFit n) (hp : In64 f.2.2.2.1) {l : List (List Int)} (hl : Len l) (hr : Len r) : law37_BoundLeast K n s f l r = some true := by
  unfold law37_BoundLeast
  rw [awake_K, obind_some]
  obtain ⟨b, b1, b2⟩ := Few37l hK hf s hl
  simp only [tst_not, tst_true]
  rw [b1, obind_some]
  cases b with
  | false => rfl
  | true =>
    obtain ⟨_, l3, lr⟩ := b2 rfl
    rw [tst_true]
    by_cases h : 12 < ln r
    · rw [tst_pos h]
    · rw [tst_neg h]
      obtain ⟨a, e, h1, h2⟩ := Least_eq (s := s) hK hf hp (l := l) (by omega) (fun r hr => by have := lr r hr; unfold Len; omega)
      obtain ⟨a', e', h1', h2'⟩ := Slack_eq (s := s) hK hf hp hr
      rw [h1, h2, h1', h2']
      simp only [obind_some, beq_self_eq_true, tst_true]
end Go.Evl.Sh
