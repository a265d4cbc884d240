/-
  Links that can be used, and routes.
  Conditions: none.
-/
import Derived.Test.YtbcihiehcekheaaDoorLaw5
namespace Go.Evl.Sh
open Go Go.Evl
set_option linter.unusedVariables false
set_option linter.unusedSimpArgs false

/-- A margin is heard. -/
def Heard (n : Network) (m : Int) : Prop := w64 (n.2.2.2.1 * w64 (n.2.2.1 + 0)) ≤ w64 (m * 1000)
instance (n : Network) (m : Int) : Decidable (Heard n m) := by unfold Heard; exact inferInstance
/-- There is a link, and one back, and both are heard. -/
def GoodL (n : Network) (a b : Int) : Prop := ∃ (i j : Nat) (x y : Int), FindOk n a b i ∧ FindOk n b a j ∧ n.2.2.2.2.2.1[i]? = some x ∧ n.2.2.2.2.2.1[j]? = some y ∧ Heard n x ∧ Heard n y
theorem find_nat {n : Network} {a b v : Int} (h : FindOk n a b v) (h0 : 0 ≤ v) : ∃ (i : Nat) (l : Link), v = i ∧ n.2.2.2.2.1[i]? = some l ∧ l.1 = a ∧ l.2.1 = b := by
  rcases h with ⟨rfl, _⟩ | h
  · omega
  · exact h
theorem heard_ref (k : Nat) (n : Network) (m : Int) : ref31_Heard k n m 0 = some (decide (Heard n m)) := rfl
theorem heard_net (k : Nat) (n : Network) (m : Int) : network_hears k n m 0 = some (decide (Heard n m)) := rfl
theorem ref31_Good_eq {k : Nat} (hk : Fuel k) {n : Network} (hn : NetOk n) (a b : Int) : ∃ g, ref31_Good k n a b = some g ∧ (g = true ↔ GoodL n a b) := by
  unfold ref31_Good
  obtain ⟨v, v1, v2⟩ := ref31_Find_eq hk hn.links a b
  obtain ⟨u, u1, u2⟩ := ref31_Find_eq hk hn.links b a
  simp only [v1, u1, obind_some, tst_dec]
  by_cases h1 : 0 ≤ v
  rotate_left
  · rw [if_neg h1]
    exact ⟨false, rfl, by simp, fun ⟨i, j, x, y, g1, _⟩ => by have := g1.unique hn v2; omega⟩
  rw [if_pos h1]
  by_cases h2 : 0 ≤ u
  rotate_left
  · rw [if_neg h2]
    exact ⟨false, rfl, by simp, fun ⟨i, j, x, y, _, g1, _⟩ => by have := g1.unique hn u2; omega⟩
  rw [if_pos h2]
  obtain ⟨i, l, rfl, l1, _⟩ := find_nat v2 h1
  obtain ⟨j, m, rfl, m1, _⟩ := find_nat u2 h2
  have hi : n.2.2.2.2.2.1[i]? = some (n.2.2.2.2.2.1[i]'(by rw [hn.margin]; exact (List.getElem?_eq_some_iff.1 l1).1)) := List.getElem?_eq_getElem _
  have hj : n.2.2.2.2.2.1[j]? = some (n.2.2.2.2.2.1[j]'(by rw [hn.margin]; exact (List.getElem?_eq_some_iff.1 m1).1)) := List.getElem?_eq_getElem _
  generalize n.2.2.2.2.2.1[i]'_ = x at hi
  generalize n.2.2.2.2.2.1[j]'_ = y at hj
  simp only [ix_nat, hi, hj, obind_some, heard_ref, tst_dec]
  have un : ∀ i' j' x' y', FindOk n a b (i' : Nat) → FindOk n b a (j' : Nat) → n.2.2.2.2.2.1[i']? = some x' → n.2.2.2.2.2.1[j']? = some y' → x' = x ∧ y' = y := fun i' j' x' y' g1 g2 g3 g4 => by
    have e1 := g1.unique hn v2
    have e2 := g2.unique hn u2
    have e1 : i' = i := by omega
    have e2 : j' = j := by omega
    subst e1; subst e2
    rw [hi] at g3; rw [hj] at g4
    cases g3; cases g4
    exact ⟨rfl, rfl⟩
  by_cases h3 : Heard n x
  · rw [if_pos h3]
    refine ⟨_, rfl, ?_⟩
    rw [decide_eq_true_eq]
    exact ⟨fun h4 => ⟨i, j, x, y, v2, u2, hi, hj, h3, h4⟩, fun ⟨i', j', x', y', g1, g2, g3, g4, g5, g6⟩ => by
      obtain ⟨rfl, rfl⟩ := un i' j' x' y' g1 g2 g3 g4
      exact g6⟩
  · rw [if_neg h3]
    exact ⟨false, rfl, by simp, fun ⟨i', j', x', y', g1, g2, g3, g4, g5, g6⟩ => by
      obtain ⟨rfl, rfl⟩ := un i' j' x' y' g1 g2 g3 g4
      exact absurd g5 h3⟩
theorem Index_eq {k : Nat} (hk : Fuel k) {n : Network} (hf : NetFit n) (hn : NetOk n) (a b : Int) : ∃ v, network_Index k n a b = some v ∧ FindOk n a b v := by
  unfold network_Index
  obtain ⟨e, e1, e2⟩ := network_Check_eq hk hf
  have e0 := e2.2 hn
  subst e0
  obtain ⟨v, v1, v2⟩ := network_find_eq hk hn a b
  refine ⟨v, ?_, v2⟩
  rw [e1, obind_some]
  simp only [v1, obind_some]
  rfl
theorem Usable_eq {k : Nat} (hk : Fuel k) {n : Network} (hf : NetFit n) (hn : NetOk n) {a b v : Int} (hv : FindOk n a b v) : ∃ g, network_Usable k n v = some g ∧ (g = true ↔ GoodL n a b) := by
  unfold network_Usable
  obtain ⟨e, e1, e2⟩ := network_Check_eq hk hf
  have e0 := e2.2 hn
  subst e0
  rw [e1, obind_some]
  simp only [tst_beq, if_true, tst_dec]
  by_cases h1 : 0 ≤ v
  rotate_left
  · rw [if_neg h1]
    exact ⟨false, rfl, by simp, fun ⟨i, j, x, y, g1, _⟩ => by have := g1.unique hn hv; omega⟩
  rw [if_pos h1]
  obtain ⟨i, l, rfl, l1, l2, l3⟩ := find_nat hv h1
  have hlt := (List.getElem?_eq_some_iff.1 l1).1
  rw [if_pos (by simp only [ln]; omega)]
  unfold network_usable
  obtain ⟨u, u1, u2⟩ := network_find_eq hk hn b a
  simp only [ix_nat, l1, obind_some, l2, l3, u1, tst_dec]
  by_cases h2 : 0 ≤ u
  rotate_left
  · rw [if_neg h2]
    exact ⟨false, rfl, by simp, fun ⟨i, j, x, y, _, g1, _⟩ => by have := g1.unique hn u2; omega⟩
  rw [if_pos h2]
  obtain ⟨j, m, rfl, m1, _⟩ := find_nat u2 h2
  have hi : n.2.2.2.2.2.1[i]? = some (n.2.2.2.2.2.1[i]'(by rw [hn.margin]; exact hlt)) := List.getElem?_eq_getElem _
  have hj : n.2.2.2.2.2.1[j]? = some (n.2.2.2.2.2.1[j]'(by rw [hn.margin]; exact (List.getElem?_eq_some_iff.1 m1).1)) := List.getElem?_eq_getElem _
  generalize n.2.2.2.2.2.1[i]'_ = x at hi
  generalize n.2.2.2.2.2.1[j]'_ = y at hj
  simp only [hi, hj, ix_nat, obind_some, heard_net, tst_dec]
  have un : ∀ i' j' x' y', FindOk n a b (i' : Nat) → FindOk n b a (j' : Nat) → n.2.2.2.2.2.1[i']? = some x' → n.2.2.2.2.2.1[j']? = some y' → x' = x ∧ y' = y := fun i' j' x' y' g1 g2 g3 g4 => by
    have e1 := g1.unique hn hv
    have e2 := g2.unique hn u2
    have e1 : i' = i := by omega
    have e2 : j' = j := by omega
    subst e1; subst e2
    rw [hi] at g3; rw [hj] at g4
    cases g3; cases g4
    exact ⟨rfl, rfl⟩
  by_cases h3 : Heard n x
  · rw [if_pos h3, obind_some]
    refine ⟨_, rfl, ?_⟩
    rw [decide_eq_true_eq]
    exact ⟨fun h4 => ⟨i, j, x, y, hv, u2, hi, hj, h3, h4⟩, fun ⟨i', j', x', y', g1, g2, g3, g4, g5, g6⟩ => by
      obtain ⟨rfl, rfl⟩ := un i' j' x' y' g1 g2 g3 g4
      exact g6⟩
  · rw [if_neg h3, obind_some]
    exact ⟨false, rfl, by simp, fun ⟨i', j', x', y', g1, g2, g3, g4, g5, g6⟩ => by
      obtain ⟨rfl, rfl⟩ := un i' j' x' y' g1 g2 g3 g4
      exact absurd g5 h3⟩
end Go.Evl.Sh
