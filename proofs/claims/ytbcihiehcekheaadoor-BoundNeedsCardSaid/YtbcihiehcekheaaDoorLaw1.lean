/-
  The checks of a network: what the two packages answer.
  Conditions: none.
-/
import Derived.Test.YtbcihiehcekheaaDoorLaw0
namespace Go.Evl.Sh
open Go Go.Evl
set_option linter.unusedVariables false
set_option linter.unusedSimpArgs false

/-- The fuel is enough for every slice. -/
def Fuel (k : Nat) : Prop := 9223372036854775809 < k
structure NetFit (n : Network) : Prop where
  nodes : In64 n.1
  power : Len n.2.1
  row : ∀ r ∈ n.2.1, Len r
  pw : ∀ r ∈ n.2.1, ∀ p ∈ r, In64 p
  noise : In64 n.2.2.1
  thr : In64 n.2.2.2.1
  links : Len n.2.2.2.2.1
  link : ∀ l ∈ n.2.2.2.2.1, In64 l.1 ∧ In64 l.2.1 ∧ In64 l.2.2.1
  margin : Len n.2.2.2.2.2.1
  marg : ∀ m ∈ n.2.2.2.2.2.1, In64 m
/-- The table of the powers has its form. -/
structure TableOk (n : Network) : Prop where
  len : (n.2.1.length : Int) = n.1
  row : ∀ r ∈ n.2.1, (r.length : Int) = n.1
  pw : ∀ r ∈ n.2.1, ∀ p ∈ r, 0 ≤ p ∧ p ≤ 68719476736

theorem checkPower_2 (k : Nat) (p : Int) : network_checkPower_2 k p = some (decide (¬ (0 ≤ p ∧ p ≤ 68719476736))) := by
  unfold network_checkPower_2
  rw [tst_dec]
  split
  · rename_i h; simp; omega
  · rename_i h; simp; omega
theorem cp_l0 {k : Nat} (hk : Fuel k) {n : Network} (hp : Len n.2.1) {κ3 : ((List (List Int)) × (Network × Unit) × Int × Int × Unit) → Option Int} {κ7 r : Option Int} (h3 : ∀ i : Nat, κ3 (n.2.1, (n, ()), (n.2.1.length : Int), (i : Int), ()) = r) :
    network_checkPower_l0 k κ3 κ7 k (n.2.1, (n, ()), ln n.2.1, 0, ()) = if (∃ x ∈ n.2.1, (x.length : Int) ≠ n.1) then r else κ7 := by
  unfold Fuel at hk; unfold Len at hp
  refine loop_list (st := fun i => (n.2.1, (n, ()), ln n.2.1, (i : Int), ())) (fun rec i hi => ?_) (fun rec => by simp [tst_dec, ln, tst_false]) (by omega)
  simp only [tst_dec, ln, Int.ofNat_lt, hi, if_true, ix_lt _ hi, obind_some, tst_not, tst_beq, h3, w64_succ (show i < 9223372036854775807 by omega)]
  by_cases h : (n.2.1[i].length : Int) = n.1 <;> simp [h]
theorem cp_l4 {k : Nat} (hk : Fuel k) {row : List Int} (hp : Len row) {κ5 : ((List Int) × Unit × Int × Int × Unit) → Option Int} {κ6 r : Option Int} (h5 : ∀ i : Nat, κ5 (row, (), (row.length : Int), (i : Int), ()) = r) :
    network_checkPower_l4 k κ5 κ6 k (row, (), ln row, 0, ()) = if (∃ p ∈ row, ¬ (0 ≤ p ∧ p ≤ 68719476736)) then r else κ6 := by
  unfold Fuel at hk; unfold Len at hp
  refine loop_list (st := fun i => (row, (), ln row, (i : Int), ())) (fun rec i hi => ?_) (fun rec => by simp [tst_dec, ln, tst_false]) (by omega)
  simp only [tst_dec, ln, Int.ofNat_lt, hi, if_true, ix_lt _ hi, obind_some, checkPower_2, h5, w64_succ (show i < 9223372036854775807 by omega)]
theorem cp_l3 {k : Nat} (hk : Fuel k) {n : Network} (hp : Len n.2.1) (hr : ∀ r ∈ n.2.1, Len r) {κ4 : ((List (List Int)) × Int × Int × (List (List Int)) × (List (List Int)) × Unit × Unit) → Option Int} {r : Option Int} (h4 : ∀ i : Nat, κ4 (n.2.1, (n.2.1.length : Int), (i : Int), n.2.1, n.2.1, (), ()) = r) :
    network_checkPower_l3 k κ4 k (n.2.1, ln n.2.1, 0, n.2.1, n.2.1, (), ()) = if (∃ x ∈ n.2.1, ∃ p ∈ x, ¬ (0 ≤ p ∧ p ≤ 68719476736)) then r else some 0 := by
  have hk' := hk
  unfold Fuel at hk'; unfold Len at hp
  refine loop_list (st := fun i => (n.2.1, ln n.2.1, (i : Int), n.2.1, n.2.1, (), ())) (fun rec i hi => ?_) (fun rec => by simp [tst_dec, ln, tst_false]) (by omega)
  simp only [tst_dec, Int.ofNat_lt, hi, if_true, ix_lt _ hi, obind_some]
  rw [if_pos (by simp [ln, hi])]
  rw [cp_l4 (r := r) hk (hr _ (List.getElem_mem hi)) (fun j => by
    rw [if_pos (by simp)]
    exact h4 i)]
  rw [w64_succ (show i < 9223372036854775807 by omega)]
theorem checkPower_eq {k : Nat} (hk : Fuel k) {n : Network} (hf : NetFit n) : ∃ e, network_checkPower k n = some e ∧ (e = 0 ↔ TableOk n) := by
  unfold network_checkPower
  rw [tst_not, tst_beq]
  by_cases h1 : ln n.2.1 = n.1
  · rw [if_pos h1, cp_l0 (r := some 1) hk hf.power (fun i => by simp [tst_true]), cp_l3 (r := some 2) hk hf.power hf.row (fun i => by simp [tst_true])]
    by_cases h2 : ∃ x ∈ n.2.1, (x.length : Int) ≠ n.1
    · rw [if_pos h2]
      obtain ⟨x, hx, hne⟩ := h2
      exact ⟨1, rfl, by simp, fun h => absurd (h.row x hx) hne⟩
    · rw [if_neg h2]
      by_cases h3 : ∃ x ∈ n.2.1, ∃ p ∈ x, ¬ (0 ≤ p ∧ p ≤ 68719476736)
      · rw [if_pos h3]
        obtain ⟨x, hx, p, hp, hb⟩ := h3
        exact ⟨2, rfl, by simp, fun h => absurd (h.pw x hx p hp) hb⟩
      · rw [if_neg h3]
        exact ⟨0, rfl, fun _ => ⟨h1, fun x hx => Classical.byContradiction fun hb => h2 ⟨x, hx, hb⟩, fun x hx p hp => Classical.byContradiction fun hb => h3 ⟨x, hx, p, hp, hb⟩⟩, fun _ => rfl⟩
  · rw [if_neg h1]
    exact ⟨1, rfl, by simp, fun h => absurd h.len h1⟩

/-! ### The reference's table -/
theorem ref31_in_eq (k : Nat) (n lo hi : Int) : ref31_in k n lo hi = some (decide (lo ≤ n ∧ n ≤ hi)) := by
  unfold ref31_in
  rw [tst_dec]
  by_cases h : lo ≤ n <;> simp [h]
theorem rt_l2 {k : Nat} (hk : Fuel k) {n : Network} {a : Nat} {row : List Int} (ha : n.2.1[a]? = some row) (hrow : (row.length : Int) = n.1) (hp : Len row) {κ0 : (Network × Int × Int × Unit) → Option Int} {fin : Option Int} (h0 : κ0 (n, (a : Int), (row.length : Int), ()) = fin) :
    ref31_table_l2 k κ0 k (n, (a : Int), 0, ()) = if (∃ p ∈ row, ¬ (0 ≤ p ∧ p ≤ 68719476736)) then some 2 else fin := by
  unfold Fuel at hk; unfold Len at hp
  refine loop_list (st := fun i => (n, (a : Int), (i : Int), ())) (fun rec i hi => ?_) (fun rec => by simp [tst_dec, ← hrow, tst_false, h0]) (by omega)
  simp only [tst_dec, ← hrow, Int.ofNat_lt, hi, if_true, ix_nat, ha, List.getElem?_eq_getElem hi, obind_some, tst_not, ref31_in_eq, w64_succ (show i < 9223372036854775807 by omega)]
  by_cases h : 0 ≤ row[i] ∧ row[i] ≤ 68719476736 <;> simp [h]
theorem rt_l1 {k : Nat} (hk : Fuel k) {n : Network} (hl : (n.2.1.length : Int) = n.1) (hrow : ∀ r ∈ n.2.1, (r.length : Int) = n.1) (hp : Len n.2.1) (hr : ∀ r ∈ n.2.1, Len r) :
    ref31_table_l1 k k (n, 0, ()) = if (∃ x ∈ n.2.1, ∃ p ∈ x, ¬ (0 ≤ p ∧ p ≤ 68719476736)) then some 2 else some 0 := by
  have hk' := hk
  unfold Fuel at hk'; unfold Len at hp
  refine loop_list (st := fun i => (n, (i : Int), ())) (fun rec i hi => ?_) (fun rec => by simp [tst_dec, ← hl, tst_false]) (by omega)
  simp only [tst_dec, ← hl, Int.ofNat_lt, hi, if_true]
  rw [rt_l2 hk (List.getElem?_eq_getElem hi) (hrow _ (List.getElem_mem hi)) (hr _ (List.getElem_mem hi)) rfl]
  rw [w64_succ (show i < 9223372036854775807 by omega)]
theorem rt_l0 {k : Nat} (hk : Fuel k) {n : Network} (hl : (n.2.1.length : Int) = n.1) (hp : Len n.2.1) {κ1 : (Network × Int × Unit) → Option Int} {fin : Option Int} (h1 : κ1 (n, (n.2.1.length : Int), ()) = fin) :
    ref31_table_l0 k κ1 k (n, 0, ()) = if (∃ x ∈ n.2.1, (x.length : Int) ≠ n.1) then some 1 else fin := by
  unfold Fuel at hk; unfold Len at hp
  refine loop_list (st := fun i => (n, (i : Int), ())) (fun rec i hi => ?_) (fun rec => by simp [tst_dec, ← hl, tst_false, h1]) (by omega)
  simp only [tst_dec, ln, Int.ofNat_lt, hi, if_true, ix_lt _ hi, obind_some, tst_not, tst_beq, w64_succ (show i < 9223372036854775807 by omega)]
  rw [if_pos (by omega)]
  by_cases h : (n.2.1[i].length : Int) = n.1 <;> simp [h]
theorem ref31_table_eq {k : Nat} (hk : Fuel k) {n : Network} (hf : NetFit n) : ∃ e, ref31_table k n = some e ∧ (e = 0 ↔ TableOk n) := by
  unfold ref31_table
  rw [tst_not, tst_beq]
  by_cases h1 : ln n.2.1 = n.1
  · rw [if_pos h1, rt_l0 hk h1 hf.power rfl]
    by_cases h2 : ∃ x ∈ n.2.1, (x.length : Int) ≠ n.1
    · rw [if_pos h2]
      obtain ⟨x, hx, hne⟩ := h2
      exact ⟨1, rfl, by simp, fun h => absurd (h.row x hx) hne⟩
    · rw [if_neg h2]
      have h2' : ∀ x ∈ n.2.1, (x.length : Int) = n.1 := fun x hx => Classical.byContradiction fun hb => h2 ⟨x, hx, hb⟩
      show ∃ e, ref31_table_l1 k k (n, 0, ()) = some e ∧ _
      rw [rt_l1 hk h1 h2' hf.power hf.row]
      by_cases h3 : ∃ x ∈ n.2.1, ∃ p ∈ x, ¬ (0 ≤ p ∧ p ≤ 68719476736)
      · rw [if_pos h3]
        obtain ⟨x, hx, p, hp, hb⟩ := h3
        exact ⟨2, rfl, by simp, fun h => absurd (h.pw x hx p hp) hb⟩
      · rw [if_neg h3]
        exact ⟨0, rfl, fun _ => ⟨h1, h2', fun x hx p hp => Classical.byContradiction fun hb => h3 ⟨x, hx, p, hp, hb⟩⟩, fun _ => rfl⟩
  · rw [if_neg h1]
    exact ⟨1, rfl, by simp, fun h => absurd h.len h1⟩
end Go.Evl.Sh
