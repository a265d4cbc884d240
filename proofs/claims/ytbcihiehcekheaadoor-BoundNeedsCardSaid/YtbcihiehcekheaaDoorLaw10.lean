/-
  The cells of a flow on a link: those of the schedule that are the flow's and the link's.
  Conditions: none.
-/
import Derived.Test.YtbcihiehcekheaaDoorLaw9
namespace Go.Evl.Sh
open Go Go.Evl
set_option linter.unusedVariables false
set_option linter.unusedSimpArgs false

/-- A cell is the flow's on the link. -/
def keeps (id : Int) (l : Link) (c : Cell) : Bool := c.2.2.2.2.1 == id && (c.2.2.1 == l.1 && c.2.2.2.1 == l.2.1)
theorem cells_l1 {k : Nat} {w : Way} {l : Link} {cs : List Cell} (hl : cs.length ≤ 1000) {a1 a2 : Int} {κ0 : (Int × Int × (Way × Link × Unit) × Int × Int × Int × Int × (Way × Link × Unit) × (List Cell) × Unit) → Option (List Cell)} :
    ∀ (m j i k' : Nat) (xs : List Cell), j + m = cs.length → m < k' → i ≤ j → xs.length = cs.length → xs.take i = (cs.take j).filter (keeps w.2.2.2.2.2.2.2.2.2.1 l) → xs.drop j = cs.drop j →
      ∃ (ys : List Cell) (i' : Nat), bound_way_cells_l1 k κ0 k' (0, (cs.length : Int), (w, l, ()), (i : Int), (j : Int), a1, a2, (w, l, ()), xs, ()) = κ0 (0, (cs.length : Int), (w, l, ()), (i' : Int), (cs.length : Int), a1, a2, (w, l, ()), ys, ()) ∧ ys.length = cs.length ∧ i' ≤ cs.length ∧ ys.take i' = cs.filter (keeps w.2.2.2.2.2.2.2.2.2.1 l)
  | 0, j, i, k', xs, hj, hk, hij, hx, ht, hd => by
    obtain ⟨k', rfl⟩ : ∃ q, k' = q + 1 := ⟨k' - 1, by omega⟩
    have : j = cs.length := by omega
    subst this
    refine ⟨xs, i, ?_, hx, hij, by rw [ht, List.take_length]⟩
    unfold bound_way_cells_l1
    rw [loopK_succ]
    simp [tst_false]
  | m + 1, j, i, k', xs, hj, hk, hij, hx, ht, hd => by
    obtain ⟨k', rfl⟩ : ∃ q, k' = q + 1 := ⟨k' - 1, by omega⟩
    have hlt : j < cs.length := by omega
    have hc : cs[j]? = some cs[j] := List.getElem?_eq_getElem _
    have hxc : xs[j]? = some cs[j] := by
      have h1 : (xs.drop j)[0]? = (cs.drop j)[0]? := by rw [hd]
      rw [List.getElem?_drop, List.getElem?_drop, Nat.add_zero] at h1
      rw [h1, hc]
    have htk : cs.take (j + 1) = cs.take j ++ [cs[j]] := by rw [List.take_add_one, hc]; rfl
    generalize cs[j] = c at hc hxc htk
    have hdrop : ∀ ys : List Cell, ys.drop j = cs.drop j → ys.drop (j + 1) = cs.drop (j + 1) := fun ys h => by
      rw [← List.drop_drop, ← List.drop_drop, h]
    have hi1 : i < xs.length := by omega
    have hxi : xs[i]? = some (xs[i]'hi1) := List.getElem?_eq_getElem _
    have e0 : (0 : Int) + (j : Int) = (j : Int) := by omega
    have e1 : (0 : Int) + (i : Int) = (i : Int) := by omega
    have g1 : decide ((0 : Int) ≤ (j : Int)) = true := by simp
    have g2 : decide ((0 : Int) ≤ (i : Int)) = true := by simp
    have hil : i < cs.length := by omega
    cases hk2 : keeps w.2.2.2.2.2.2.2.2.2.1 l c with
    | false =>
      obtain ⟨ys, i', q1, q2, q3, q4⟩ := cells_l1 (k := k) (w := w) (l := l) hl (a1 := a1) (a2 := a2) (κ0 := κ0) m (j + 1) i k' xs (by omega) (by omega) (by omega) hx (by rw [ht, htk, List.filter_append]; simp [hk2]) (hdrop xs hd)
      refine ⟨ys, i', ?_, q2, q3, q4⟩
      rw [← q1]
      unfold bound_way_cells_l1
      rw [loopK_succ]
      generalize loopK _ k' = rec
      simp only [Int.ofNat_lt, hlt, decide_true, tst_true, g1, Bool.and_self, e0, ix_nat, hxc, obind_some, tst_not, tst_beq, w64_succ (show j < 9223372036854775807 by omega)]
      unfold keeps at hk2
      by_cases z1 : c.2.2.2.2.1 = w.2.2.2.2.2.2.2.2.2.1
      · rw [if_pos z1]
        by_cases z2 : c.2.2.1 = l.1
        · rw [if_pos z2]
          by_cases z3 : c.2.2.2.1 = l.2.1
          · simp [z1, z2, z3] at hk2
          · rw [if_neg z3]
        · rw [if_neg z2]
      · rw [if_neg z1]
    | true =>
      have htake : (xs.set i c).take (i + 1) = (cs.take (j + 1)).filter (keeps w.2.2.2.2.2.2.2.2.2.1 l) := by
        rw [htk, List.filter_append, ← ht, List.take_add_one]
        simp [hk2, hi1, List.take_set_of_le]
      have hdr : (xs.set i c).drop (j + 1) = cs.drop (j + 1) := by
        rw [List.drop_set_of_lt (by omega)]; exact hdrop xs hd
      obtain ⟨ys, i', q1, q2, q3, q4⟩ := cells_l1 (k := k) (w := w) (l := l) hl (a1 := a1) (a2 := a2) (κ0 := κ0) m (j + 1) (i + 1) k' (xs.set i c) (by omega) (by omega) (by omega) (by rw [List.length_set]; exact hx) htake hdr
      refine ⟨ys, i', ?_, q2, q3, q4⟩
      rw [← q1]
      unfold bound_way_cells_l1
      rw [loopK_succ]
      generalize loopK _ k' = rec
      have hset : setI xs (i : Int) c = xs.set i c := by simp [setI]
      simp only [Int.ofNat_lt, hlt, hil, decide_true, tst_true, g1, g2, Bool.and_self, e0, e1, ix_nat, hxc, hxi, obind_some, tst_not, tst_beq, hset, w64_succ (show j < 9223372036854775807 by omega), w64_succ (show i < 9223372036854775807 by omega)]
      unfold keeps at hk2
      simp only [Bool.and_eq_true, beq_iff_eq] at hk2
      obtain ⟨z1, z2, z3⟩ := hk2
      rw [if_pos z1, if_pos z2, if_pos z3]
theorem clr_take {ys : List Cell} {i : Nat} (h : i ≤ ys.length) (z : Cell) : (clrI ys (i : Int) ((ys.length : Int) - (i : Int)) z).take i = ys.take i := by
  show (ys.take (i : Int).toNat ++ _).take i = _
  rw [Int.toNat_natCast, List.take_append_of_le_length (by rw [List.length_take]; omega), List.take_take, Nat.min_self]
theorem clr_len {ys : List Cell} {i : Nat} (h : i ≤ ys.length) (z : Cell) : (clrI ys (i : Int) ((ys.length : Int) - (i : Int)) z).length = ys.length := by
  show (ys.take (i : Int).toNat ++ (List.replicate _ z ++ ys.drop _)).length = _
  simp; omega
theorem part_take {ys : List Cell} {i : Nat} (h : i ≤ ys.length) : part ys 0 (i : Int) = some (ys.take i) := by
  show (if 0 ≤ (0 : Int) ∧ 0 ≤ (i : Int) ∧ 0 + (i : Int) ≤ ys.length then some ((ys.drop (0 : Int).toNat).take (i : Int).toNat) else none) = _
  rw [if_pos (by omega)]; simp
theorem cells_end {cs ys : List Cell} {i : Nat} (hl : ys.length = cs.length) (hi : i ≤ cs.length) (z : Cell) :
    (obind (std.mslc (cs.length : Int) (some (i : Int)) none) fun v8 =>
    tst ((decide (0 ≤ ((0 : Int) + v8.1))) && (decide (((0 + v8.1) + (v8.2 - v8.1)) ≤ (ln ys))))
      (obind (std.mslc (cs.length : Int) none (some (i : Int))) fun v9 =>
      obind (part (clrI ys (0 + v8.1) (v8.2 - v8.1) z) (0 + v9.1) (v9.2 - v9.1)) fun v10 =>
      some v10)
      none) = some (ys.take i) := by
  have m1 : std.mslc (cs.length : Int) (some (i : Int)) none = some ((i : Int), (cs.length : Int)) := by
    show (if 0 ≤ (i : Int) ∧ (i : Int) ≤ (cs.length : Int) ∧ (cs.length : Int) ≤ (cs.length : Int) then some ((i : Int), (cs.length : Int)) else none) = _
    rw [if_pos (by omega)]
  have m2 : std.mslc (cs.length : Int) none (some (i : Int)) = some ((0 : Int), (i : Int)) := by
    show (if 0 ≤ (0 : Int) ∧ (0 : Int) ≤ (i : Int) ∧ (i : Int) ≤ (cs.length : Int) then some ((0 : Int), (i : Int)) else none) = _
    rw [if_pos (by omega)]
  have g : ((decide (0 ≤ ((0 : Int) + (i : Int)))) && (decide (((0 + (i : Int)) + ((cs.length : Int) - (i : Int))) ≤ (ln ys)))) = true := by
    simp [ln, hl]; omega
  rw [m1, obind_some]
  simp only [g, tst_true, m2, obind_some]
  have e1 : (0 : Int) + (i : Int) = (i : Int) := by omega
  have e2 : ((i : Int) - 0) = (i : Int) := by omega
  have e3 : (0 : Int) + 0 = 0 := rfl
  rw [e1, e2, e3, ← hl]
  rw [part_take (by rw [clr_len (by omega)]; omega), obind_some, clr_take (by omega)]
/-- The state of the look for the first cell that goes. -/
def st0c (w : Way) (l : Link) (cs : List Cell) (i : Nat) : Int × Int × (Way × Link × Unit) × Int × Int × Int × Int × (Way × Link × Unit) × Int × Int × (Way × Link × Unit) × Int × Int × (Way × Link × Unit) × (List Cell) × Unit :=
  (0, (cs.length : Int), (w, l, ()), (cs.length : Int), (i : Int), 0, (cs.length : Int), (w, l, ()), 0, (cs.length : Int), (w, l, ()), 0, (cs.length : Int), (w, l, ()), cs, ())
theorem cells_l0 {k : Nat} {w : Way} {l : Link} {cs : List Cell} (hl : cs.length ≤ 1000) {κ1 κ2 : (Int × Int × (Way × Link × Unit) × Int × Int × Int × Int × (Way × Link × Unit) × Int × Int × (Way × Link × Unit) × Int × Int × (Way × Link × Unit) × (List Cell) × Unit) → Option (List Cell)} {X : Option (List Cell)}
    (h1 : ∀ (i : Nat) (c : Cell), cs[i]? = some c → keeps w.2.2.2.2.2.2.2.2.2.1 l c = false → (cs.take i).filter (keeps w.2.2.2.2.2.2.2.2.2.1 l) = cs.take i → κ1 (st0c w l cs i) = X) (h2 : cs.filter (keeps w.2.2.2.2.2.2.2.2.2.1 l) = cs → κ2 (st0c w l cs cs.length) = X) :
    ∀ (m i k' : Nat), i + m = cs.length → m < k' → (cs.take i).filter (keeps w.2.2.2.2.2.2.2.2.2.1 l) = cs.take i → bound_way_cells_l0 k κ1 κ2 k' (st0c w l cs i) = X
  | 0, i, k', hi, hk, ht => by
    obtain ⟨k', rfl⟩ : ∃ q, k' = q + 1 := ⟨k' - 1, by omega⟩
    have : i = cs.length := by omega
    subst this
    rw [List.take_length] at ht
    rw [← h2 ht]
    unfold bound_way_cells_l0 st0c
    rw [loopK_succ]
    simp only [Int.lt_irrefl, decide_false, tst_false]
  | m + 1, i, k', hi, hk, ht => by
    obtain ⟨k', rfl⟩ : ∃ q, k' = q + 1 := ⟨k' - 1, by omega⟩
    have hlt : i < cs.length := by omega
    have hc : cs[i]? = some cs[i] := List.getElem?_eq_getElem _
    have htk : cs.take (i + 1) = cs.take i ++ [cs[i]] := by rw [List.take_add_one, hc]; rfl
    generalize cs[i] = c at hc htk
    have g1 : decide ((0 : Int) ≤ (i : Int)) = true := by simp
    have e0 : (0 : Int) + (i : Int) = (i : Int) := by omega
    cases hk2 : keeps w.2.2.2.2.2.2.2.2.2.1 l c with
    | false =>
      rw [← h1 i c hc hk2 ht]
      unfold bound_way_cells_l0 st0c
      rw [loopK_succ]
      generalize loopK _ k' = rec
      simp only [Int.ofNat_lt, hlt, decide_true, tst_true, g1, Bool.and_self, e0, ix_nat, hc, obind_some, tst_not, tst_beq]
      unfold keeps at hk2
      by_cases z1 : c.2.2.2.2.1 = w.2.2.2.2.2.2.2.2.2.1
      · rw [if_pos z1]
        by_cases z2 : c.2.2.1 = l.1
        · rw [if_pos z2]
          by_cases z3 : c.2.2.2.1 = l.2.1
          · simp [z1, z2, z3] at hk2
          · rw [if_neg z3]
        · rw [if_neg z2]
      · rw [if_neg z1]
    | true =>
      have ih := cells_l0 (k := k) hl h1 h2 m (i + 1) k' (by omega) (by omega) (by rw [htk, List.filter_append, ht]; simp [hk2])
      rw [← ih]
      unfold bound_way_cells_l0 st0c
      rw [loopK_succ]
      generalize loopK _ k' = rec
      unfold keeps at hk2
      simp only [Bool.and_eq_true, beq_iff_eq] at hk2
      obtain ⟨z1, z2, z3⟩ := hk2
      simp only [Int.ofNat_lt, hlt, decide_true, tst_true, g1, Bool.and_self, e0, ix_nat, hc, obind_some, tst_not, tst_beq, w64_succ (show i < 9223372036854775807 by omega)]
      rw [if_pos z1, if_pos z2, if_pos z3]
theorem cells_eq {k : Nat} (hk : Fuel k) (w : Way) (l : Link) (hl : w.2.2.2.2.2.2.2.2.1.length ≤ 1000) : bound_way_cells k w l = some (w.2.2.2.2.2.2.2.2.1.filter (keeps w.2.2.2.2.2.2.2.2.2.1 l)) := by
  generalize hcs : w.2.2.2.2.2.2.2.2.1 = cs at hl
  have hfit : fit 40 cs [] = true := by
    show decide ((cs.length + 0) * 40 ≤ 140737488355328) = true
    simp; omega
  unfold bound_way_cells
  rw [hcs, hfit, tst_true]
  refine cells_l0 hl (fun i c hc hk2 ht => ?_) (fun hall => ?_) cs.length 0 k (by omega) (by unfold Fuel at hk; omega) (by simp)
  · have hi : i < cs.length := (List.getElem?_eq_some_iff.1 hc).1
    unfold st0c
    have z : ((i : Int) == -1) = false := by
      rw [beq_eq_false_iff_ne]; omega
    simp only [z, tst_false, w64_succ (show i < 9223372036854775807 by omega)]
    have htk : cs.take (i + 1) = cs.take i ++ [c] := by rw [List.take_add_one, hc]; rfl
    obtain ⟨ys, i', q1, q2, q3, q4⟩ := cells_l1 (k := k) (w := w) (l := l) hl (a1 := 0) (a2 := (cs.length : Int)) (κ0 := fun t5 =>
      obind (std.mslc t5.2.1 (some t5.2.2.2.1) none) fun v8 =>
      tst ((decide (0 ≤ (t5.1 + v8.1))) && (decide (((t5.1 + v8.1) + (v8.2 - v8.1)) ≤ (ln t5.2.2.2.2.2.2.2.2.1))))
        (obind (std.mslc t5.2.1 none (some t5.2.2.2.1)) fun v9 =>
        obind (part (clrI t5.2.2.2.2.2.2.2.2.1 (t5.1 + v8.1) (v8.2 - v8.1) (0, 0, 0, 0, 0, ())) (t5.1 + v9.1) (v9.2 - v9.1)) fun v10 =>
        some v10)
        none) (cs.length - (i + 1)) (i + 1) i k cs (by omega) (by unfold Fuel at hk; omega) (by omega) rfl (by rw [htk, List.filter_append, ht]; simp [hk2]) rfl
    refine q1.trans ?_
    refine (cells_end q2 q3 _).trans ?_
    rw [q4]
  · unfold st0c
    simp only
    rw [part_take (Nat.le_refl _), obind_some, List.take_length, hall]
end Go.Evl.Sh
