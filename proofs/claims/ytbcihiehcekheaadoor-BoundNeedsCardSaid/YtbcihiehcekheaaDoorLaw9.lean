/-
  Lists of numbers: equal ones, and relative ones.
  Conditions: none.
-/
import Derived.Test.YtbcihiehcekheaaDoorLaw8
namespace Go.Evl.Sh
open Go Go.Evl
set_option linter.unusedVariables false
set_option linter.unusedSimpArgs false

theorem equal_same {k : Nat} (hk : Fuel k) {xs : List Int} (hl : Len xs) : slices_Equal_Lint_int k xs xs = some true := by
  unfold Len at hl
  unfold slices_Equal_Lint_int slices_Equal_Lint_int_l0
  rw [tst_not, tst_beq, if_pos rfl]
  refine loop_go (st := fun i => (xs, xs, ln xs, (i : Int), ())) (n := xs.length) (fun rec i hi => ?_) (fun rec => by simp only [ln, Int.lt_irrefl, decide_false, tst_false]) (by unfold Fuel at hk; omega)
  simp only [tst_dec, ln, Int.ofNat_lt, hi, if_true, ix_lt _ hi, obind_some, tst_not, tst_beq, w64_succ (show i < 9223372036854775807 by omega)]
theorem fit8_of {xs : List Int} {y : Int} (h : xs.length ≤ 1000000) : fit 8 xs [y] = true := by
  show decide ((xs.length + [y].length) * 8 ≤ 140737488355328) = true
  simp; omega
theorem relative_loop {k : Nat} (hk : Fuel k) {xs : List Int} (hl : xs.length ≤ 100000) (d : Int) :
    ∀ (m i k' : Nat), i + m = xs.length → m < k' → ref37_relative_l0 k k' (xs, d, (xs.take i).map (fun v => w64 (v - d)), (i : Int), ()) = some (xs.map fun v => w64 (v - d))
  | 0, i, k', hi, hk' => by
    obtain ⟨k', rfl⟩ : ∃ q, k' = q + 1 := ⟨k' - 1, by omega⟩
    have : i = xs.length := by omega
    subst this
    unfold ref37_relative_l0
    rw [loopK_succ]
    simp [ln, tst_false]
  | m + 1, i, k', hi, hk' => by
    obtain ⟨k', rfl⟩ : ∃ q, k' = q + 1 := ⟨k' - 1, by omega⟩
    have hlt : i < xs.length := by omega
    have ih := relative_loop hk hl d m (i + 1) k' (by omega) (by omega)
    rw [← ih]
    unfold ref37_relative_l0
    rw [loopK_succ]
    have e : (xs.take (i + 1)).map (fun v => w64 (v - d)) = (xs.take i).map (fun v => w64 (v - d)) ++ [w64 (xs[i] - d)] := by
      rw [List.take_add_one, List.map_append, List.getElem?_eq_getElem hlt]; rfl
    have hfit : fit 8 ((xs.take i).map (fun v => w64 (v - d))) [w64 (xs[i] - d)] = true := fit8_of (by simp; omega)
    simp only [ln, Int.ofNat_lt, hlt, decide_true, tst_true, ix_lt _ hlt, obind_some, hfit, w64_succ (show i < 9223372036854775807 by omega), e]
theorem relative_eq {k : Nat} (hk : Fuel k) {xs : List Int} (hl : xs.length ≤ 100000) (d : Int) : ref37_relative k xs d = some (xs.map fun v => w64 (v - d)) := by
  unfold ref37_relative
  exact relative_loop hk hl d xs.length 0 k (by omega) (by unfold Fuel at hk; omega)
theorem Few31 {k : Nat} (hk : Fuel k) {n : Network} (hf : NetFit n) : ∃ b, ref31_Few k n = some b := by
  have hp := hf.power
  unfold Len at hp
  unfold ref31_Few ref31_Few_l0
  have fin : ∃ b, (tst (decide (ln n.2.1 ≤ 8)) (tst (decide (ln n.2.2.2.2.1 ≤ 60)) (some (decide (ln n.2.2.2.2.2.1 ≤ 60))) (some false)) (some false)) = some b := by
    rw [tst_dec, tst_dec]
    repeat' split
    all_goals exact ⟨_, rfl⟩
  obtain ⟨b, hb⟩ := fin
  have e := loop_list (st := fun i => (n, (i : Int), ())) (xs := n.2.1) (bad := fun v => 40 < ln v) (r := some false) (fin := some b) (k := k) (F := fun rec0 (t1 : Network × Int × Unit) =>
    tst (decide (t1.2.1 < (ln t1.1.2.1)))
      (obind (ix t1.1.2.1 t1.2.1) fun v2 =>
      tst (decide (40 < (ln v2)))
        (some false)
        (rec0 (t1.1, w64 (t1.2.1 + 1), ())))
      ((fun t1 : Network × Int × Unit =>
    tst (decide ((ln t1.1.2.1) ≤ 8))
      (tst (decide ((ln t1.1.2.2.2.2.1) ≤ 60))
        (some (decide ((ln t1.1.2.2.2.2.2.1) ≤ 60)))
        (some false))
      (some false)) t1)) (fun rec i hi => by
      simp only [tst_dec, show ((i : Int) < ln n.2.1) by (simp only [ln]; omega), if_true, ix_lt _ hi, obind_some, w64_succ (show i < 9223372036854775807 by omega)]) (fun rec => by
      simp only [ln, Int.lt_irrefl, decide_false, tst_false]
      exact hb) (by unfold Fuel at hk; omega)
  by_cases hx : ∃ x ∈ n.2.1, 40 < ln x
  · rw [if_pos hx] at e; exact ⟨_, e⟩
  · rw [if_neg hx] at e; exact ⟨_, e⟩
theorem Few37 {k : Nat} (hk : Fuel k) {n : Network} (hf : NetFit n) (s : Schedule) (r : List Int) : ∃ b, ref37_Few k n s [r] = some b ∧ (b = true → s.2.2.1.length ≤ 24) := by
  obtain ⟨b, hb⟩ := Few31 hk hf
  obtain ⟨k, rfl⟩ : ∃ k', k = k' + 2 := ⟨k - 2, by unfold Fuel at hk; omega⟩
  unfold ref37_Few ref37_Few_l0
  have w1 : w64 (0 + 1) = 1 := by decide
  have l1 : ln [r] = 1 := rfl
  simp only [loopK_succ, l1, w1]
  rw [tst_pos (show (0 : Int) < 1 by decide)]
  simp only [ix, show (0 : Int) ≤ 0 by decide, if_true, Int.toNat_zero, List.getElem?_cons_zero, obind_some]
  by_cases h : 12 < ln r
  · rw [tst_pos h]; exact ⟨false, rfl, by simp⟩
  · rw [tst_neg h, tst_neg (show ¬ (1 : Int) < 1 by decide), hb, obind_some]
    cases b with
    | false => exact ⟨false, rfl, by simp⟩
    | true =>
      rw [tst_true]
      by_cases h2 : ln s.2.2.1 ≤ 24
      · rw [tst_pos h2]
        exact ⟨_, rfl, fun _ => by simp only [ln] at h2; omega⟩
      · rw [tst_neg h2]; exact ⟨false, rfl, by simp⟩
end Go.Evl.Sh
