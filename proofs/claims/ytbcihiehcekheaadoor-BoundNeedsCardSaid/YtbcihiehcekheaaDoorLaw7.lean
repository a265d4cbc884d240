/-
  Routes: the same error on both sides.
  Conditions: none.
-/
import Derived.Test.YtbcihiehcekheaaDoorLaw6
namespace Go.Evl.Sh
open Go Go.Evl
set_option linter.unusedVariables false
set_option linter.unusedSimpArgs false

theorem tst_pos {β : Type} {p : Prop} [Decidable p] (h : p) (x y : Option β) : tst (decide p) x y = x := by simp [h, tst_true]
theorem tst_neg {β : Type} {p : Prop} [Decidable p] (h : ¬ p) (x y : Option β) : tst (decide p) x y = y := by simp [h, tst_false]
theorem ends_eq {k : Nat} (hk : Fuel k) {n : Network} (hf : NetFit n) (a b : Int) : ∃ e, route_ends k n a b = some e ∧ ref33_ends k n a b = some e ∧ (e = 0 → NetOk n ∧ (0 ≤ a ∧ a < n.1) ∧ (0 ≤ b ∧ b < n.1) ∧ a ≠ b) := by
  unfold route_ends ref33_ends ref33_node
  obtain ⟨e, e1, e2⟩ := network_Check_eq hk hf
  obtain ⟨u, u1, u2⟩ := ref31_Check_eq hk hf
  rw [e1, u1]
  simp only [obind_some, tst_not, tst_beq, tst_dec]
  by_cases h : NetOk n
  rotate_left
  · rw [if_neg (fun q => h (e2.1 q)), if_neg (fun q => h (u2.1 q))]
    exact ⟨1, rfl, rfl, by simp⟩
  rw [if_pos (e2.2 h), if_pos (u2.2 h)]
  by_cases h1 : (0 ≤ a ∧ a < n.1) ∧ (0 ≤ b ∧ b < n.1) ∧ a ≠ b
  · obtain ⟨⟨a1, a2⟩, ⟨b1, b2⟩, h2⟩ := h1
    rw [if_neg (by omega), if_neg (by omega), if_neg h2, if_pos a1]
    simp [a2, b1, b2, h2, obind_some, tst_true, h, a1]
  · refine ⟨2, ?_, ?_, by simp⟩
    · repeat' split
      all_goals first | rfl | (exfalso; omega)
    · by_cases a1 : 0 ≤ a <;> by_cases a2 : a < n.1 <;> by_cases b1 : 0 ≤ b <;> by_cases b2 : b < n.1 <;> by_cases h2 : a = b <;> simp [a1, a2, b1, b2, h2, obind_some, tst_true, tst_false] <;> omega
theorem index_int {k : Nat} (hk : Fuel k) {xs : List Int} (hl : xs.length ≤ 1000) (x : Int) : slices_Contains_api_Route_int k xs x = some (decide (x ∈ xs)) := by
  unfold slices_Contains_api_Route_int slices_Index_api_Route_int slices_Index_api_Route_int_l0
  obtain ⟨h1, h2⟩ := loop_find (st := fun i => (xs, x, ln xs, (i : Int), ())) (n := xs.length) (P := fun i => xs[i]? = some x) (r := fun i => some (i : Int)) (fin := some (-1)) (k := k) (F := fun rec0 (t1 : (List Int) × Int × Int × Int × Unit) =>
    tst (decide (t1.2.2.2.1 < t1.2.2.1))
      (obind (ix t1.1 t1.2.2.2.1) fun v2 =>
      tst (t1.2.1 == v2)
        (some t1.2.2.2.1)
        (rec0 (t1.1, t1.2.1, t1.2.2.1, w64 (t1.2.2.2.1 + 1), ())))
      (some (-1))) (fun rec i hi => by
      have hc : xs[i]? = some xs[i] := List.getElem?_eq_getElem _
      simp only [tst_dec, ln, Int.ofNat_lt, hi, if_true, ix_lt _ hi, obind_some, tst_beq, w64_succ (show i < 9223372036854775807 by omega), hc, Option.some.injEq, eq_comm]) (fun rec => by simp [tst_dec, ln, tst_false]) (by unfold Fuel at hk; omega)
  by_cases hx : ∃ i, i < xs.length ∧ xs[i]? = some x
  · obtain ⟨j, hj, hp, hb⟩ := first_of hx
    have e := h2 j hj hp hb
    refine Eq.trans (congrArg (fun o => obind o fun v0 => some (decide (0 ≤ v0))) e) ?_
    simp [obind_some, List.mem_of_getElem? hp]
  · have e := h1 (fun i hi hp => hx ⟨i, hi, hp⟩)
    refine Eq.trans (congrArg (fun o => obind o fun v0 => some (decide (0 ≤ v0))) e) ?_
    have : x ∉ xs := fun hm => by
      obtain ⟨i, hi⟩ := List.mem_iff_getElem?.1 hm
      exact hx ⟨i, (List.getElem?_eq_some_iff.1 hi).1, hi⟩
    simp [obind_some, this]
/-- A node of a route stands there before. -/
def DupAt (r : List Int) (i : Nat) : Prop := ∃ v, r[i]? = some v ∧ v ∈ r.take i
/-- A hop of a route has no usable link. -/
def BadHop (n : Network) (r : List Int) (i : Nat) : Prop := ∃ a b, r[i]? = some a ∧ r[i + 1]? = some b ∧ ¬ GoodL n a b
theorem cut_to {xs : List Int} {i : Nat} (h : i ≤ xs.length) : cut xs none (some (i : Int)) none = some (xs.take i) := by
  unfold cut sliceV
  simp [boundOr, bound, h]
theorem cut_from {xs : List Int} (h : 1 ≤ xs.length) : cut xs (some 1) none none = some (xs.drop 1) := by
  unfold cut sliceV
  simp [boundOr, bound, h]
theorem rf_l3 {k : Nat} (hk : Fuel k) {n : Network} {r : List Int} (hl : r.length ≤ 9) {κ2 : ((List Int) × Network × (List Int) × Int × Int × Unit) → Option Int} {fin : Option Int} (h2 : κ2 (r, n, r, (r.length : Int), (r.length : Int), ()) = fin) :
    ((∀ i, i < r.length → ¬ DupAt r i) → route_fault_l3 k κ2 k (r, n, r, ln r, 0, ()) = fin) ∧ ((∃ i, i < r.length ∧ DupAt r i) → route_fault_l3 k κ2 k (r, n, r, ln r, 0, ()) = some 6) := by
  classical
  unfold route_fault_l3
  refine loop_any (st := fun i => (r, n, r, ln r, (i : Int), ())) (P := DupAt r) (fun rec i hi => ?_) (fun rec => by simp only [ln, Int.lt_irrefl, decide_false, tst_false]; exact h2) (by unfold Fuel at hk; omega)
  have hc : r[i]? = some r[i] := List.getElem?_eq_getElem _
  have hp : DupAt r i ↔ r[i] ∈ r.take i := ⟨fun ⟨v, q1, q2⟩ => by rw [hc] at q1; cases q1; exact q2, fun q => ⟨_, hc, q⟩⟩
  simp only [tst_dec, ln, Int.ofNat_lt, hi, if_true, ix_lt _ hi, obind_some, cut_to (Nat.le_of_lt hi), index_int hk (xs := r.take i) (by rw [List.length_take]; omega), w64_succ (show i < 9223372036854775807 by omega), hp]
theorem ref_l2 {k : Nat} (hk : Fuel k) {n : Network} {r : List Int} (hl : r.length ≤ 9) {i : Nat} (hi : i < r.length) {κ0 : ((List Int) × Network × Int × Int × Unit) → Option Int} {fin : Option Int} (h0 : κ0 (r, n, (i : Int), (i : Int), ()) = fin) :
    (¬ DupAt r i → ref33_fault_l2 k κ0 k (r, n, (i : Int), 0, ()) = fin) ∧ (DupAt r i → ref33_fault_l2 k κ0 k (r, n, (i : Int), 0, ()) = some 6) := by
  classical
  have hc : r[i]? = some r[i] := List.getElem?_eq_getElem _
  unfold ref33_fault_l2
  obtain ⟨h1, h2⟩ := loop_any (st := fun j => (r, n, (i : Int), (j : Int), ())) (n := i) (P := fun j => r[j]? = some r[i]) (r := some 6) (fin := fin) (k := k) (F := fun rec8 (t9 : (List Int) × Network × Int × Int × Unit) =>
    tst (decide (t9.2.2.2.1 < t9.2.2.1))
      (obind (ix t9.1 t9.2.2.1) fun v10 =>
      obind (ix t9.1 t9.2.2.2.1) fun v11 =>
      tst (v10 == v11)
        (some 6)
        (rec8 (t9.1, t9.2.1, t9.2.2.1, w64 (t9.2.2.2.1 + 1), ())))
      (κ0 t9)) (fun rec j hj => by
      have hcj : r[j]? = some (r[j]'(by omega)) := List.getElem?_eq_getElem _
      simp only [tst_dec, Int.ofNat_lt, hj, if_true, ix_nat, hc, hcj, obind_some, tst_beq, w64_succ (show j < 9223372036854775807 by omega), Option.some.injEq, eq_comm]) (fun rec => by simp only [Int.lt_irrefl, decide_false, tst_false]; exact h0) (by unfold Fuel at hk; omega)
  have hp : DupAt r i ↔ ∃ j, j < i ∧ r[j]? = some r[i] := by
    constructor
    · rintro ⟨v, q1, q2⟩
      rw [hc] at q1; cases q1
      obtain ⟨j, hj⟩ := List.mem_iff_getElem?.1 q2
      rw [List.getElem?_take] at hj
      split at hj
      · rename_i h; exact ⟨j, h, hj⟩
      · cases hj
    · rintro ⟨j, q1, q2⟩
      exact ⟨_, hc, List.mem_iff_getElem?.2 ⟨j, by rw [List.getElem?_take, if_pos q1]; exact q2⟩⟩
  rw [hp]
  exact ⟨fun h => h1 fun j hj q => h ⟨j, hj, q⟩, h2⟩
theorem ref_l1 {k : Nat} (hk : Fuel k) {n : Network} {r : List Int} (hl : r.length ≤ 9) {κ1 : ((List Int) × Network × Int × Unit) → Option Int} {fin : Option Int} (h1 : κ1 (r, n, (r.length : Int), ()) = fin) :
    ((∀ i, i < r.length → ¬ DupAt r i) → ref33_fault_l1 k κ1 k (r, n, 0, ()) = fin) ∧ ((∃ i, i < r.length ∧ DupAt r i) → ref33_fault_l1 k κ1 k (r, n, 0, ()) = some 6) := by
  classical
  unfold ref33_fault_l1
  refine loop_any (st := fun i => (r, n, (i : Int), ())) (P := DupAt r) (fun rec i hi => ?_) (fun rec => by simp only [ln, Int.lt_irrefl, decide_false, tst_false]; exact h1) (by unfold Fuel at hk; omega)
  simp only [tst_dec, ln, Int.ofNat_lt, hi, if_true]
  obtain ⟨q1, q2⟩ := ref_l2 hk (n := n) hl hi (κ0 := fun t9 => rec (t9.1, t9.2.1, w64 (t9.2.2.1 + 1), ())) rfl
  by_cases hp : DupAt r i
  · rw [if_pos hp]; exact q2 hp
  · rw [if_neg hp]
    refine (q1 hp).trans ?_
    simp only [w64_succ (show i < 9223372036854775807 by omega)]
theorem hop_l4 {k : Nat} (hk : Fuel k) {n : Network} (hf : NetFit n) (hn : NetOk n) {r : List Int} (hl : r.length ≤ 9) (h2 : 1 ≤ r.length) :
    ((∀ i, i < r.length - 1 → ¬ BadHop n r i) → route_fault_l4 k k (r, n, r.drop 1, ln (r.drop 1), 0, ()) = some 0) ∧ ((∃ i, i < r.length - 1 ∧ BadHop n r i) → route_fault_l4 k k (r, n, r.drop 1, ln (r.drop 1), 0, ()) = some 17) := by
  classical
  have hd : (r.drop 1).length = r.length - 1 := List.length_drop
  rw [← hd]
  unfold route_fault_l4
  refine loop_any (st := fun i => (r, n, r.drop 1, ln (r.drop 1), (i : Int), ())) (P := BadHop n r) (fun rec i hi => ?_) (fun rec => by simp only [ln, Int.lt_irrefl, decide_false, tst_false]) (by unfold Fuel at hk; omega)
  have ha : r[i]? = some (r[i]'(by omega)) := List.getElem?_eq_getElem _
  have hb : r[i + 1]? = some (r[i + 1]'(by omega)) := List.getElem?_eq_getElem _
  generalize r[i]'_ = a at ha
  generalize r[i + 1]'_ = b at hb
  have hb' : (r.drop 1)[i]? = some b := by rw [List.getElem?_drop, ← hb]; congr 1; omega
  obtain ⟨v, v1, v2⟩ := Index_eq hk hf hn a b
  obtain ⟨g, g1, g2⟩ := Usable_eq hk hf hn v2
  have hp : BadHop n r i ↔ ¬ GoodL n a b := ⟨fun ⟨a', b', q1, q2, q3⟩ => by rw [ha] at q1; rw [hb] at q2; cases q1; cases q2; exact q3, fun q => ⟨a, b, ha, hb, q⟩⟩
  simp only [tst_dec, ln, Int.ofNat_lt, hi, if_true, ix_nat, ha, hb', obind_some, v1, g1, tst_not, w64_succ (show i < 9223372036854775807 by omega), hp]
  cases g with
  | true => rw [tst_true, if_neg (fun q => q (g2.1 rfl))]
  | false => rw [tst_false, if_pos (fun q => by have := g2.2 q; cases this)]
theorem hop_ref {k : Nat} (hk : Fuel k) {n : Network} (hn : NetOk n) {r : List Int} (hl : r.length ≤ 9) (h2 : 1 ≤ r.length) :
    ((∀ i, i < r.length - 1 → ¬ BadHop n r i) → ref33_fault_l3 k k (r, n, 1, ()) = some 0) ∧ ((∃ i, i < r.length - 1 ∧ BadHop n r i) → ref33_fault_l3 k k (r, n, 1, ()) = some 17) := by
  classical
  unfold ref33_fault_l3
  refine loop_any (st := fun i => (r, n, ((i + 1 : Nat) : Int), ())) (P := BadHop n r) (n := r.length - 1) (fun rec i hi => ?_) (fun rec => by
    have : ¬ (((r.length - 1 + 1 : Nat) : Int) < ln r) := by simp only [ln]; omega
    simp only [this, decide_false, tst_false]) (by unfold Fuel at hk; omega)
  have ha : r[i]? = some (r[i]'(by omega)) := List.getElem?_eq_getElem _
  have hb : r[i + 1]? = some (r[i + 1]'(by omega)) := List.getElem?_eq_getElem _
  generalize r[i]'_ = a at ha
  generalize r[i + 1]'_ = b at hb
  obtain ⟨g, g1, g2⟩ := ref31_Good_eq hk hn a b
  have hp : BadHop n r i ↔ ¬ GoodL n a b := ⟨fun ⟨a', b', q1, q2, q3⟩ => by rw [ha] at q1; rw [hb] at q2; cases q1; cases q2; exact q3, fun q => ⟨a, b, ha, hb, q⟩⟩
  have e1 : w64 (((i + 1 : Nat) : Int) - 1) = (i : Int) := by rw [w64_of ⟨by omega, by omega⟩]; omega
  have hlt : ((i + 1 : Nat) : Int) < ln r := by simp only [ln]; omega
  simp only [hlt, decide_true, tst_true, e1, ix_nat, ha, hb, obind_some, g1, tst_not, w64_succ (show i + 1 < 9223372036854775807 by omega), hp]
  cases g with
  | true => rw [tst_true, if_neg (fun q => q (g2.1 rfl))]
  | false => rw [tst_false, if_pos (fun q => by have := g2.2 q; cases this)]
theorem nodes_l0 {k : Nat} (hk : Fuel k) {n : Network} {r : List Int} (hl : r.length ≤ 9) {κ1 : ((List Int) × (Network × Unit) × Int × Int × Unit) → Option Int} {κ3 x : Option Int} (h1 : ∀ i : Nat, κ1 (r, (n, ()), (r.length : Int), (i : Int), ()) = x) :
    route_fault_l0 k κ1 κ3 k (r, (n, ()), ln r, 0, ()) = if (∃ v ∈ r, ¬ (0 ≤ v ∧ v < n.1)) then x else κ3 := by
  unfold route_fault_l0
  refine loop_list (st := fun i => (r, (n, ()), ln r, (i : Int), ())) (fun rec i hi => ?_) (fun rec => by simp only [ln, Int.lt_irrefl, decide_false, tst_false]) (by unfold Fuel at hk; omega)
  simp only [tst_dec, ln, Int.ofNat_lt, hi, if_true, ix_lt _ hi, obind_some, h1, w64_succ (show i < 9223372036854775807 by omega)]
  by_cases a1 : r[i] < 0
  · rw [if_pos a1, if_pos (by omega)]
  · rw [if_neg a1]
    by_cases a2 : n.1 ≤ r[i]
    · rw [if_pos a2, if_pos (by omega)]
    · rw [if_neg a2, if_neg (by omega)]
theorem nodes_ref {k : Nat} (hk : Fuel k) {n : Network} {a b : Int} {r : List Int} (hl : r.length ≤ 9) {κ2 : (Int × Int × (List Int) × Network × Int × Unit) → Option Int} {x : Option Int} (h2 : κ2 (a, b, r, n, (r.length : Int), ()) = x) :
    ref33_fault_l0 k κ2 k (a, b, r, n, 0, ()) = if (∃ v ∈ r, ¬ (0 ≤ v ∧ v < n.1)) then some 2 else x := by
  unfold ref33_fault_l0
  refine loop_list (st := fun i => (a, b, r, n, (i : Int), ())) (fun rec i hi => ?_) (fun rec => by simp only [ln, Int.lt_irrefl, decide_false, tst_false]; exact h2) (by unfold Fuel at hk; omega)
  have hnode : ∀ v, ref33_node k n v = some (decide (0 ≤ v ∧ v < n.1)) := fun v => by
    unfold ref33_node
    rw [tst_dec]
    by_cases h : 0 ≤ v <;> simp [h]
  simp only [tst_dec, ln, Int.ofNat_lt, hi, if_true, ix_lt _ hi, obind_some, hnode, tst_not, w64_succ (show i < 9223372036854775807 by omega)]
  by_cases h : 0 ≤ r[i] ∧ r[i] < n.1
  · rw [if_pos h, if_neg (fun q => q h)]
  · rw [if_neg h, if_pos h]
/-- A route has its form. -/
structure RouteOk (n : Network) (a b : Int) (r : List Int) : Prop where
  len : 2 ≤ r.length ∧ r.length ≤ 9
  node : ∀ v ∈ r, 0 ≤ v ∧ v < n.1
  first : r[0]? = some a
  last : r[r.length - 1]? = some b
  once : ∀ i, i < r.length → ¬ DupAt r i
  hops : ∀ i, i < r.length - 1 → ¬ BadHop n r i
theorem route_fault_eq {k : Nat} (hk : Fuel k) {n : Network} (hf : NetFit n) (hn : NetOk n) (a b : Int) {r : List Int} (hr : Len r) : ∃ e, route_fault k n a b r = some e ∧ ref33_fault k n a b r = some e ∧ (e = 0 → RouteOk n a b r) := by
  unfold Len at hr
  have w1 : w64 (ln r - 1) = ln r - 1 := w64_of ⟨by simp only [ln]; omega, by simp only [ln]; omega⟩
  unfold route_fault ref33_fault
  simp only [w1]
  by_cases h1 : ln r < 2
  · rw [tst_pos h1, tst_pos h1]; exact ⟨9, rfl, rfl, by simp⟩
  rw [tst_neg h1, tst_neg h1]
  by_cases h2 : 9 < ln r
  · rw [tst_pos h2, tst_pos (show 8 < ln r - 1 by omega)]; exact ⟨8, rfl, rfl, by simp⟩
  rw [tst_neg h2, tst_neg (show ¬ 8 < ln r - 1 by omega)]
  have hl2 : 2 ≤ r.length := by simp only [ln] at h1; omega
  have hl9 : r.length ≤ 9 := by simp only [ln] at h2; omega
  rw [nodes_l0 (x := some 2) hk hl9 (fun i => by simp only [show (0 : Int) ≤ (i : Int) by omega, decide_true, tst_true]), nodes_ref hk hl9 rfl]
  by_cases h3 : ∃ v ∈ r, ¬ (0 ≤ v ∧ v < n.1)
  · rw [if_pos h3, if_pos h3]; exact ⟨2, rfl, rfl, by simp⟩
  rw [if_neg h3, if_neg h3]
  have hx : r[0]? = some (r[0]'(by omega)) := List.getElem?_eq_getElem _
  have hy : r[r.length - 1]? = some (r[r.length - 1]'(by omega)) := List.getElem?_eq_getElem _
  generalize r[0]'_ = x at hx
  generalize r[r.length - 1]'_ = y at hy
  have x0 : ix r 0 = some x := (ix_nat r 0).trans hx
  have e1 : ln r - 1 = ((r.length - 1 : Nat) : Int) := by simp only [ln]; omega
  have y0 : ix r (ln r - 1) = some y := by rw [e1, ix_nat, hy]
  simp only [x0, y0, w1, obind_some, tst_not, tst_beq]
  by_cases h4 : x = a
  rotate_left
  · rw [if_neg h4, if_neg h4]; exact ⟨11, rfl, rfl, by simp⟩
  rw [if_pos h4, if_pos h4]
  by_cases h5 : y = b
  rotate_left
  · rw [if_neg h5, if_neg h5]; exact ⟨11, rfl, rfl, by simp⟩
  rw [if_pos h5, if_pos h5]
  obtain ⟨p1, p2⟩ := rf_l3 hk (n := n) hl9 (κ2 := fun t20 =>
    obind (cut t20.1 (some 1) none none) fun v24 =>
    route_fault_l4 k k (t20.1, t20.2.1, v24, ln v24, 0, ())) rfl
  obtain ⟨q1, q2⟩ := ref_l1 hk (n := n) hl9 (κ1 := fun t7 => ref33_fault_l3 k k (t7.1, t7.2.1, 1, ())) rfl
  by_cases h6 : ∃ i, i < r.length ∧ DupAt r i
  · exact ⟨6, p2 h6, q2 h6, by simp⟩
  have h6' : ∀ i, i < r.length → ¬ DupAt r i := fun i hi h => h6 ⟨i, hi, h⟩
  rw [p1 h6', q1 h6']
  simp only [cut_from (show 1 ≤ r.length by omega), obind_some]
  obtain ⟨s1, s2⟩ := hop_l4 hk hf hn hl9 (show 1 ≤ r.length by omega)
  obtain ⟨t1, t2⟩ := hop_ref hk hn hl9 (show 1 ≤ r.length by omega)
  by_cases h7 : ∃ i, i < r.length - 1 ∧ BadHop n r i
  · exact ⟨17, s2 h7, t2 h7, by simp⟩
  have h7' : ∀ i, i < r.length - 1 → ¬ BadHop n r i := fun i hi h => h7 ⟨i, hi, h⟩
  refine ⟨0, s1 h7', t1 h7', fun _ => ⟨⟨hl2, hl9⟩, fun v hv => Classical.byContradiction fun q => h3 ⟨v, hv, q⟩, ?_, ?_, h6', h7'⟩⟩
  · rw [hx, h4]
  · rw [hy, h5]
theorem route_Check_eq {k : Nat} (hk : Fuel k) {n : Network} (hf : NetFit n) (a b : Int) {r : List Int} (hr : Len r) : ∃ e, route_Check k n a b r = some e ∧ ref33_Check k n a b r = some e ∧ (e = 0 → NetOk n ∧ RouteOk n a b r) := by
  unfold route_Check ref33_Check
  obtain ⟨e, e1, e2, e3⟩ := ends_eq hk hf a b
  rw [e1, e2]
  simp only [obind_some, tst_not, tst_beq]
  by_cases h : e = 0
  rotate_left
  · rw [if_neg h, if_neg h]; exact ⟨e, rfl, rfl, fun q => absurd q h⟩
  rw [if_pos h, if_pos h]
  obtain ⟨hn, _⟩ := e3 h
  obtain ⟨u, u1, u2, u3⟩ := route_fault_eq hk hf hn a b hr
  rw [u1, u2]
  exact ⟨u, rfl, rfl, fun q => ⟨hn, u3 q⟩⟩
end Go.Evl.Sh
