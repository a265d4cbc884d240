/-
  The checks of a flow and of a schedule.
  Conditions: none.
-/
import Derived.Test.YtbcihiehcekheaaDoorLaw2
namespace Go.Evl.Sh
open Go Go.Evl
set_option linter.unusedVariables false
set_option linter.unusedSimpArgs false

/-- A flow has its form. -/
structure FlowOk (nodes : Int) (f : Flow) : Prop where
  id : 0 ≤ f.1 ∧ f.1 ≤ 255
  a : 0 ≤ f.2.1 ∧ f.2.1 < nodes
  b : 0 ≤ f.2.2.1 ∧ f.2.2.1 < nodes
  period : 1 ≤ f.2.2.2.1 ∧ f.2.2.2.1 ≤ 512
  phase : 0 ≤ f.2.2.2.2.1 ∧ f.2.2.2.2.1 < f.2.2.2.1
  dead : 1 ≤ f.2.2.2.2.2.1 ∧ f.2.2.2.2.2.1 ≤ f.2.2.2.1
  ne : f.2.1 ≠ f.2.2.1
theorem flow_check_eq (k : Nat) (nodes : Int) (f : Flow) : ∃ e, flow_check k nodes f = some e ∧ (e = 0 ↔ FlowOk nodes f) := by
  unfold flow_check
  simp only [tst_dec, tst_not, tst_beq]
  by_cases h0 : f.1 < 0
  · rw [if_pos h0]; exact ⟨2, rfl, by simp, fun h => absurd h.id (by omega)⟩
  rw [if_neg h0]
  by_cases h1 : 255 < f.1
  · rw [if_pos h1]; exact ⟨2, rfl, by simp, fun h => absurd h.id (by omega)⟩
  rw [if_neg h1]
  by_cases h2 : 0 ≤ f.2.1
  rotate_left
  · rw [if_neg h2]; exact ⟨2, rfl, by simp, fun h => absurd h.a (by omega)⟩
  rw [if_pos h2]
  by_cases h3 : f.2.1 < nodes
  rotate_left
  · rw [if_neg h3]; exact ⟨2, rfl, by simp, fun h => absurd h.a (by omega)⟩
  rw [if_pos h3]
  by_cases h4 : 0 ≤ f.2.2.1
  rotate_left
  · rw [if_neg h4]; exact ⟨2, rfl, by simp, fun h => absurd h.b (by omega)⟩
  rw [if_pos h4]
  by_cases h5 : f.2.2.1 < nodes
  rotate_left
  · rw [if_neg h5]; exact ⟨2, rfl, by simp, fun h => absurd h.b (by omega)⟩
  rw [if_pos h5]
  by_cases h6 : f.2.2.2.1 < 1
  · rw [if_pos h6]; exact ⟨2, rfl, by simp, fun h => absurd h.period (by omega)⟩
  rw [if_neg h6]
  by_cases h7 : 512 < f.2.2.2.1
  · rw [if_pos h7]; exact ⟨2, rfl, by simp, fun h => absurd h.period (by omega)⟩
  rw [if_neg h7]
  by_cases h8 : f.2.2.2.2.1 < 0
  · rw [if_pos h8]; exact ⟨2, rfl, by simp, fun h => absurd h.phase (by omega)⟩
  rw [if_neg h8]
  by_cases h9 : f.2.2.2.1 ≤ f.2.2.2.2.1
  · rw [if_pos h9]; exact ⟨2, rfl, by simp, fun h => absurd h.phase (by omega)⟩
  rw [if_neg h9]
  by_cases h10 : f.2.2.2.2.2.1 < 1
  · rw [if_pos h10]; exact ⟨2, rfl, by simp, fun h => absurd h.dead (by omega)⟩
  rw [if_neg h10]
  by_cases h11 : f.2.2.2.1 < f.2.2.2.2.2.1
  · rw [if_pos h11]; exact ⟨2, rfl, by simp, fun h => absurd h.dead (by omega)⟩
  rw [if_neg h11]
  by_cases hn : f.2.1 = f.2.2.1
  · rw [if_pos hn]; exact ⟨1, rfl, by simp, fun h => absurd hn h.ne⟩
  rw [if_neg hn]
  exact ⟨0, rfl, fun _ => ⟨by omega, by omega, by omega, by omega, by omega, by omega, hn⟩, fun _ => rfl⟩
theorem flow_Check_one {k : Nat} (hk : Fuel k) {nodes : Int} (hn : 2 ≤ nodes ∧ nodes ≤ 32) (f : Flow) : ∃ i e, flow_Check k nodes [f] = some (i, e, ()) ∧ (e = 0 ↔ FlowOk nodes f) := by
  obtain ⟨k, rfl⟩ : ∃ k', k = k' + 2 := ⟨k - 2, by unfold Fuel at hk; omega⟩
  unfold flow_Check flow_Check_l0
  simp only [show ln [f] = 1 from rfl, tst_dec]
  rw [if_neg (by omega), if_neg (by omega), if_neg (by decide)]
  obtain ⟨e, e1, e2⟩ := flow_check_eq (k + 2) nodes f
  have w1 : w64 (0 + 1) = 1 := by decide
  simp only [loopK_succ, ix, tst_dec, tst_not, tst_beq, w1]
  by_cases h : e = 0
  · subst h
    refine ⟨-1, 0, ?_, e2⟩
    simp [e1, obind_some]
  · refine ⟨0, e, ?_, e2⟩
    simp [e1, obind_some, h]
theorem ref32_in_eq (k : Nat) (n lo hi : Int) : ref32_in k n lo hi = some (decide (lo ≤ n ∧ n ≤ hi)) := by
  unfold ref32_in
  rw [tst_dec]
  by_cases h : lo ≤ n <;> simp [h]
theorem ref32_Fault_eq (k : Nat) {nodes : Int} (hn : 2 ≤ nodes ∧ nodes ≤ 32) {f : Flow} (hp : In64 f.2.2.2.1) : ∃ e, ref32_Fault k nodes f = some e ∧ (e = 0 ↔ FlowOk nodes f) := by
  unfold ref32_Fault
  have w1 : w64 (nodes - 1) = nodes - 1 := w64_of ⟨by omega, by omega⟩
  simp only [ref32_in_eq, obind_some, tst_not, tst_dec, tst_beq, w1]
  by_cases h1 : 0 ≤ f.1 ∧ f.1 ≤ 255
  rotate_left
  · rw [if_neg h1]; exact ⟨2, rfl, by simp, fun h => absurd h.id h1⟩
  rw [if_pos h1]
  by_cases h2 : 0 ≤ f.2.1 ∧ f.2.1 ≤ nodes - 1
  rotate_left
  · rw [if_neg h2]; exact ⟨2, rfl, by simp, fun h => absurd h.a (by omega)⟩
  rw [if_pos h2]
  by_cases h3 : 0 ≤ f.2.2.1 ∧ f.2.2.1 ≤ nodes - 1
  rotate_left
  · rw [if_neg h3]; exact ⟨2, rfl, by simp, fun h => absurd h.b (by omega)⟩
  rw [if_pos h3]
  by_cases h4 : 1 ≤ f.2.2.2.1 ∧ f.2.2.2.1 ≤ 512
  rotate_left
  · rw [if_neg h4]; exact ⟨2, rfl, by simp, fun h => absurd h.period h4⟩
  rw [if_pos h4]
  have w2 : w64 (f.2.2.2.1 - 1) = f.2.2.2.1 - 1 := w64_of ⟨by omega, by omega⟩
  rw [w2]
  by_cases h5 : 0 ≤ f.2.2.2.2.1 ∧ f.2.2.2.2.1 ≤ f.2.2.2.1 - 1
  rotate_left
  · rw [if_neg h5]; exact ⟨2, rfl, by simp, fun h => absurd h.phase (by omega)⟩
  rw [if_pos h5]
  by_cases h6 : 1 ≤ f.2.2.2.2.2.1 ∧ f.2.2.2.2.2.1 ≤ f.2.2.2.1
  rotate_left
  · rw [if_neg h6]; exact ⟨2, rfl, by simp, fun h => absurd h.dead h6⟩
  rw [if_pos h6]
  by_cases h7 : f.2.1 = f.2.2.1
  · rw [if_pos h7]; exact ⟨1, rfl, by simp, fun h => absurd h7 h.ne⟩
  rw [if_neg h7]
  exact ⟨0, rfl, fun _ => ⟨h1, by omega, by omega, h4, by omega, h6, h7⟩, fun _ => rfl⟩

/-! ### Schedules -/
/-- One cell stands before another one. -/
def CBefore (a b : Cell) : Prop := a.1 < b.1 ∨ a.1 = b.1 ∧ (a.2.1 < b.2.1 ∨ a.2.1 = b.2.1 ∧ (a.2.2.1 < b.2.2.1 ∨ a.2.2.1 = b.2.2.1 ∧ (a.2.2.2.1 < b.2.2.2.1 ∨ a.2.2.2.1 = b.2.2.2.1 ∧ a.2.2.2.2.1 < b.2.2.2.2.1)))
instance (a b : Cell) : Decidable (CBefore a b) := by unfold CBefore; exact inferInstance
structure CellOk (s : Schedule) (c : Cell) : Prop where
  slot : 0 ≤ c.1 ∧ c.1 < s.1
  off : 0 ≤ c.2.1 ∧ c.2.1 < s.2.1
  a : 0 ≤ c.2.2.1 ∧ c.2.2.1 < 32
  b : 0 ≤ c.2.2.2.1 ∧ c.2.2.2.1 < 32
  flow : 0 ≤ c.2.2.2.2.1 ∧ c.2.2.2.2.1 < 256
structure SchOk (s : Schedule) : Prop where
  len : 1 ≤ s.1 ∧ s.1 ≤ 512
  offs : 1 ≤ s.2.1 ∧ s.2.1 ≤ 16
  few : s.2.2.1.length ≤ 512
  cell : ∀ i c, s.2.2.1[i]? = some c → CellOk s c ∧ (0 < i → ∀ p, s.2.2.1[i - 1]? = some p → CBefore p c)
theorem inside_eq (k : Nat) (x n : Int) : schedule_inside k x n = some (decide (0 ≤ x ∧ x < n)) := by
  unfold schedule_inside
  rw [tst_dec]
  by_cases h : 0 ≤ x <;> simp [h]
theorem formed_eq (k : Nat) (s : Schedule) (c : Cell) : ∃ b, schedule_formed k s c = some b ∧ (b = true ↔ CellOk s c) := by
  unfold schedule_formed schedule_placed
  simp only [inside_eq, obind_some, tst_dec]
  by_cases h1 : 0 ≤ c.1 ∧ c.1 < s.1
  rotate_left
  · rw [if_neg h1, obind_some, tst_false]; exact ⟨false, rfl, by simp, fun h => absurd h.slot h1⟩
  rw [if_pos h1, obind_some, tst_dec]
  by_cases h2 : 0 ≤ c.2.1 ∧ c.2.1 < s.2.1
  rotate_left
  · rw [if_neg h2]; exact ⟨false, rfl, by simp, fun h => absurd h.off h2⟩
  rw [if_pos h2]
  by_cases h3 : 0 ≤ c.2.2.1 ∧ c.2.2.1 < 32
  rotate_left
  · rw [if_neg h3]; exact ⟨false, rfl, by simp, fun h => absurd h.a h3⟩
  rw [if_pos h3]
  by_cases h4 : 0 ≤ c.2.2.2.1 ∧ c.2.2.2.1 < 32
  rotate_left
  · rw [if_neg h4]; exact ⟨false, rfl, by simp, fun h => absurd h.b h4⟩
  rw [if_pos h4]
  refine ⟨_, rfl, ?_⟩
  rw [decide_eq_true_eq]
  exact ⟨fun h => ⟨h1, h2, h3, h4, h⟩, fun h => h.flow⟩
theorem scompare_eq {k : Nat} (hk : Fuel k) (a b : Cell) : ∃ c, schedule_compare k a b = some c ∧ (0 ≤ c ↔ ¬ CBefore a b) := by
  obtain ⟨k, rfl⟩ : ∃ k', k = k' + 6 := ⟨k - 6, by unfold Fuel at hk; omega⟩
  unfold schedule_compare schedule_numbers slices_Compare_Lint_int slices_Compare_Lint_int_l0
  have w1 : w64 (0 + 1) = 1 := by decide
  have w2 : w64 (1 + 1) = 2 := by decide
  have w3 : w64 (2 + 1) = 3 := by decide
  have w4 : w64 (3 + 1) = 4 := by decide
  have w5 : w64 (4 + 1) = 5 := by decide
  have hln : ∀ a b c d e : Int, ln [a, b, c, d, e] = 5 := fun _ _ _ _ _ => rfl
  simp only [obind_some, loopK_succ, hln, tst_dec, tst_not, tst_beq, w1, w2, w3, w4, w5, ix, cmp_eq]
  simp only [show ¬ (5 : Int) ≤ 0 by decide, show ¬ (5 : Int) ≤ 1 by decide, show ¬ (5 : Int) ≤ 2 by decide, show ¬ (5 : Int) ≤ 3 by decide, show ¬ (5 : Int) ≤ 4 by decide, show (0 : Int) < 5 by decide, show (1 : Int) < 5 by decide, show (2 : Int) < 5 by decide, show (3 : Int) < 5 by decide, show (4 : Int) < 5 by decide, show ¬ (5 : Int) < 5 by decide,
    show (0 : Int) ≤ 0 by decide, show (0 : Int) ≤ 1 by decide, show (0 : Int) ≤ 2 by decide, show (0 : Int) ≤ 3 by decide, show (0 : Int) ≤ 4 by decide, if_true, if_false, Int.toNat_zero, show (1 : Int).toNat = 1 from rfl, show (2 : Int).toNat = 2 from rfl, show (3 : Int).toNat = 3 from rfl, show (4 : Int).toNat = 4 from rfl,
    List.getElem?_cons_zero, List.getElem?_cons_succ, obind_some]
  have sg : ∀ x y : Int, ∃ c : Int, (if x < y then (-1 : Int) else if y < x then 1 else 0) = c ∧ (x < y ∧ c = -1 ∨ x = y ∧ c = 0 ∨ y < x ∧ c = 1) := fun x y => by
    rcases Int.lt_trichotomy x y with h | h | h
    · exact ⟨-1, if_pos h, .inl ⟨h, rfl⟩⟩
    · exact ⟨0, by rw [if_neg (by omega), if_neg (by omega)], .inr (.inl ⟨h, rfl⟩)⟩
    · exact ⟨1, by rw [if_neg (by omega), if_pos h], .inr (.inr ⟨h, rfl⟩)⟩
  obtain ⟨c1, e1, p1⟩ := sg a.1 b.1
  obtain ⟨c2, e2, p2⟩ := sg a.2.1 b.2.1
  obtain ⟨c3, e3, p3⟩ := sg a.2.2.1 b.2.2.1
  obtain ⟨c4, e4, p4⟩ := sg a.2.2.2.1 b.2.2.2.1
  obtain ⟨c5, e5, p5⟩ := sg a.2.2.2.2.1 b.2.2.2.2.1
  simp only [e1, e2, e3, e4, e5]
  unfold CBefore
  by_cases z1 : c1 = 0
  rotate_left
  · rw [if_neg z1]; exact ⟨_, rfl, by omega⟩
  rw [if_pos z1]
  by_cases z2 : c2 = 0
  rotate_left
  · rw [if_neg z2]; exact ⟨_, rfl, by omega⟩
  rw [if_pos z2]
  by_cases z3 : c3 = 0
  rotate_left
  · rw [if_neg z3]; exact ⟨_, rfl, by omega⟩
  rw [if_pos z3]
  by_cases z4 : c4 = 0
  rotate_left
  · rw [if_neg z4]; exact ⟨_, rfl, by omega⟩
  rw [if_pos z4]
  by_cases z5 : c5 = 0
  rotate_left
  · rw [if_neg z5]; exact ⟨_, rfl, by omega⟩
  rw [if_pos z5]
  exact ⟨_, rfl, by omega⟩
theorem less_eq {k : Nat} (hk : Fuel k) (a b : Cell) : ref35_Less k a b = some (decide (CBefore a b)) := by
  obtain ⟨k, rfl⟩ : ∃ k', k = k' + 6 := ⟨k - 6, by unfold Fuel at hk; omega⟩
  unfold ref35_Less ref35_numbers ref35_Less_l0
  have w1 : w64 (0 + 1) = 1 := by decide
  have w2 : w64 (1 + 1) = 2 := by decide
  have w3 : w64 (2 + 1) = 3 := by decide
  have w4 : w64 (3 + 1) = 4 := by decide
  have w5 : w64 (4 + 1) = 5 := by decide
  have hln : ∀ a b c d e : Int, ln [a, b, c, d, e] = 5 := fun _ _ _ _ _ => rfl
  simp only [obind_some, loopK_succ, hln, tst_dec, tst_not, tst_beq, w1, w2, w3, w4, w5, ix]
  simp only [show (0 : Int) < 5 by decide, show (1 : Int) < 5 by decide, show (2 : Int) < 5 by decide, show (3 : Int) < 5 by decide, show (4 : Int) < 5 by decide, show ¬ (5 : Int) < 5 by decide,
    show (0 : Int) ≤ 0 by decide, show (0 : Int) ≤ 1 by decide, show (0 : Int) ≤ 2 by decide, show (0 : Int) ≤ 3 by decide, show (0 : Int) ≤ 4 by decide, if_true, if_false, Int.toNat_zero, show (1 : Int).toNat = 1 from rfl, show (2 : Int).toNat = 2 from rfl, show (3 : Int).toNat = 3 from rfl, show (4 : Int).toNat = 4 from rfl,
    List.getElem?_cons_zero, List.getElem?_cons_succ, obind_some]
  have fin : ∀ {p : Prop} [Decidable p] {x : Option Bool}, (∃ q : Prop, ∃ _ : Decidable q, x = some (decide q) ∧ (q ↔ p)) → x = some (decide p) := by
    rintro p _ x ⟨q, _, rfl, h⟩
    simp [h]
  refine fin ?_
  unfold CBefore
  by_cases z1 : a.1 = b.1
  rotate_left
  · rw [if_neg z1]; exact ⟨_, inferInstance, rfl, by omega⟩
  rw [if_pos z1]
  by_cases z2 : a.2.1 = b.2.1
  rotate_left
  · rw [if_neg z2]; exact ⟨_, inferInstance, rfl, by omega⟩
  rw [if_pos z2]
  by_cases z3 : a.2.2.1 = b.2.2.1
  rotate_left
  · rw [if_neg z3]; exact ⟨_, inferInstance, rfl, by omega⟩
  rw [if_pos z3]
  by_cases z4 : a.2.2.2.1 = b.2.2.2.1
  rotate_left
  · rw [if_neg z4]; exact ⟨_, inferInstance, rfl, by omega⟩
  rw [if_pos z4]
  by_cases z5 : a.2.2.2.2.1 = b.2.2.2.2.1
  rotate_left
  · rw [if_neg z5]; exact ⟨_, inferInstance, rfl, by omega⟩
  rw [if_pos z5]
  exact ⟨False, inferInstance, rfl, by simp; omega⟩
theorem right_eq (k : Nat) {s : Schedule} (h1 : 1 ≤ s.1 ∧ s.1 ≤ 512) (h2 : 1 ≤ s.2.1 ∧ s.2.1 ≤ 16) (c : Cell) : ∃ b, ref35_right k s c = some b ∧ (b = true ↔ CellOk s c) := by
  have hin : ∀ n lo hi : Int, ref35_in k n lo hi = some (decide (lo ≤ n ∧ n ≤ hi)) := fun n lo hi => by
    unfold ref35_in
    rw [tst_dec]
    by_cases h : lo ≤ n <;> simp [h]
  have w1 : w64 (s.1 - 1) = s.1 - 1 := w64_of ⟨by omega, by omega⟩
  have w2 : w64 (s.2.1 - 1) = s.2.1 - 1 := w64_of ⟨by omega, by omega⟩
  unfold ref35_right
  simp only [hin, obind_some, tst_dec, w1, w2]
  by_cases z1 : 0 ≤ c.1 ∧ c.1 ≤ s.1 - 1
  rotate_left
  · rw [if_neg z1]; exact ⟨false, rfl, by simp, fun h => absurd h.slot (by omega)⟩
  rw [if_pos z1]
  by_cases z2 : 0 ≤ c.2.1 ∧ c.2.1 ≤ s.2.1 - 1
  rotate_left
  · rw [if_neg z2]; exact ⟨false, rfl, by simp, fun h => absurd h.off (by omega)⟩
  rw [if_pos z2]
  by_cases z3 : 0 ≤ c.2.2.1 ∧ c.2.2.1 ≤ 31
  rotate_left
  · rw [if_neg z3]; exact ⟨false, rfl, by simp, fun h => absurd h.a (by omega)⟩
  rw [if_pos z3]
  by_cases z4 : 0 ≤ c.2.2.2.1 ∧ c.2.2.2.1 ≤ 31
  rotate_left
  · rw [if_neg z4]; exact ⟨false, rfl, by simp, fun h => absurd h.b (by omega)⟩
  rw [if_pos z4]
  refine ⟨_, rfl, ?_⟩
  rw [decide_eq_true_eq]
  exact ⟨fun h => ⟨by omega, by omega, by omega, by omega, by omega⟩, fun h => by have := h.flow; omega⟩
/-- The cells are right as far as a place. -/
def CellsOk (s : Schedule) : Prop := ∀ i c, s.2.2.1[i]? = some c → CellOk s c ∧ (0 < i → ∀ p, s.2.2.1[i - 1]? = some p → CBefore p c)
def badAt (s : Schedule) (i : Nat) : Prop := ∃ c, s.2.2.1[i]? = some c ∧ ¬ (CellOk s c ∧ (0 < i → ∀ p, s.2.2.1[i - 1]? = some p → CBefore p c))
theorem cells_of {s : Schedule} : (∀ i, i < s.2.2.1.length → ¬ badAt s i) ↔ CellsOk s :=
  ⟨fun g i c hc => Classical.byContradiction fun hb => g i (List.getElem?_eq_some_iff.1 hc).1 ⟨c, hc, hb⟩, fun g i _ ⟨c, hc, hb⟩ => hb (g i c hc)⟩
theorem form_loop {k : Nat} (hk : Fuel k) {s : Schedule} (hl : s.2.2.1.length ≤ 512) : ∃ b, schedule_form_l0 k k (s, s.2.2.1, ln s.2.2.1, 0, ()) = some b ∧ (b = true ↔ CellsOk s) := by
  rw [← cells_of]
  unfold schedule_form_l0
  refine loop_yes (st := fun i => (s, s.2.2.1, ln s.2.2.1, (i : Int), ())) (fun rec i hi => ?_) (fun rec => by simp [tst_dec, ln, tst_false]) (by unfold Fuel at hk; omega)
  have hc : s.2.2.1[i]? = some s.2.2.1[i] := List.getElem?_eq_getElem _
  generalize s.2.2.1[i] = c at hc
  obtain ⟨b, b1, b2⟩ := formed_eq k s c
  simp only [tst_dec, ln, Int.ofNat_lt, hi, if_true, ix_nat, hc, obind_some, b1, tst_not, w64_succ (show i < 9223372036854775807 by omega)]
  have hb : badAt s i ↔ ¬ (CellOk s c ∧ (0 < i → ∀ p, s.2.2.1[i - 1]? = some p → CBefore p c)) := ⟨fun ⟨c', q1, q2⟩ => by rw [hc] at q1; cases q1; exact q2, fun q => ⟨c, hc, q⟩⟩
  rw [hb]
  cases b with
  | false => exact ⟨fun _ => rfl, fun g => absurd (b2.2 (Classical.not_not.1 g).1) (by simp)⟩
  | true =>
    rw [tst_true]
    by_cases h0 : (0 : Int) < i
    · rw [if_pos h0]
      have e1 : w64 ((i : Int) - 1) = ((i - 1 : Nat) : Int) := by rw [w64_of ⟨by omega, by omega⟩]; omega
      have hq : s.2.2.1[i - 1]? = some (s.2.2.1[i - 1]'(by omega)) := List.getElem?_eq_getElem _
      generalize s.2.2.1[i - 1]'(by omega) = q at hq
      obtain ⟨d, d1, d2⟩ := scompare_eq hk q c
      rw [e1, ix_nat, hq, obind_some, d1, obind_some]
      by_cases h1 : 0 ≤ d
      · rw [if_pos h1]
        exact ⟨fun _ => rfl, fun g => absurd ((Classical.not_not.1 g).2 (by omega) q rfl) (d2.1 h1)⟩
      · rw [if_neg h1]
        exact ⟨fun g => absurd ⟨b2.1 rfl, fun _ p hp => by
          cases hp
          exact Classical.byContradiction fun g2 => h1 (d2.2 g2)⟩ g, fun _ => rfl⟩
    · rw [if_neg h0]
      exact ⟨fun g => absurd ⟨b2.1 rfl, fun q => by omega⟩ g, fun _ => rfl⟩
theorem formed_loop {k : Nat} (hk : Fuel k) {s : Schedule} (h1 : 1 ≤ s.1 ∧ s.1 ≤ 512) (h2 : 1 ≤ s.2.1 ∧ s.2.1 ≤ 16) (hl : s.2.2.1.length ≤ 512) : ∃ b, ref35_Formed_l0 k k (s, 0, ()) = some b ∧ (b = true ↔ CellsOk s) := by
  rw [← cells_of]
  unfold ref35_Formed_l0
  refine loop_yes (st := fun i => (s, (i : Int), ())) (fun rec i hi => ?_) (fun rec => by simp [tst_dec, ln, tst_false]) (by unfold Fuel at hk; omega)
  have hc : s.2.2.1[i]? = some s.2.2.1[i] := List.getElem?_eq_getElem _
  generalize s.2.2.1[i] = c at hc
  obtain ⟨b, b1, b2⟩ := right_eq k h1 h2 c
  simp only [tst_dec, ln, Int.ofNat_lt, hi, if_true, ix_nat, hc, obind_some, b1, tst_not, w64_succ (show i < 9223372036854775807 by omega)]
  have hb : badAt s i ↔ ¬ (CellOk s c ∧ (0 < i → ∀ p, s.2.2.1[i - 1]? = some p → CBefore p c)) := ⟨fun ⟨c', q1, q2⟩ => by rw [hc] at q1; cases q1; exact q2, fun q => ⟨c, hc, q⟩⟩
  rw [hb]
  cases b with
  | false => exact ⟨fun _ => rfl, fun g => absurd (b2.2 (Classical.not_not.1 g).1) (by simp)⟩
  | true =>
    rw [tst_true]
    by_cases h0 : (0 : Int) < i
    · rw [if_pos h0]
      have e1 : w64 ((i : Int) - 1) = ((i - 1 : Nat) : Int) := by rw [w64_of ⟨by omega, by omega⟩]; omega
      have hq : s.2.2.1[i - 1]? = some (s.2.2.1[i - 1]'(by omega)) := List.getElem?_eq_getElem _
      generalize s.2.2.1[i - 1]'(by omega) = q at hq
      rw [e1, ix_nat, hq, obind_some, less_eq hk, obind_some, tst_dec]
      by_cases h1 : CBefore q c
      · rw [if_pos h1]
        exact ⟨fun g => absurd ⟨b2.1 rfl, fun _ p hp => by cases hp; exact h1⟩ g, fun _ => rfl⟩
      · rw [if_neg h1]
        exact ⟨fun _ => rfl, fun g => absurd ((Classical.not_not.1 g).2 (by omega) q rfl) h1⟩
    · rw [if_neg h0]
      exact ⟨fun g => absurd ⟨b2.1 rfl, fun q => by omega⟩ g, fun _ => rfl⟩
theorem form_eq {k : Nat} (hk : Fuel k) (s : Schedule) : ∃ b, schedule_form k s = some b ∧ (b = true ↔ SchOk s) := by
  unfold schedule_form schedule_sized
  simp only [tst_dec]
  have no : ∀ {x : Option Bool}, x = some false → ¬ SchOk s → ∃ b, (obind x fun v0 => tst (!v0) (some false) (if 512 < ln s.2.2.1 then some false else schedule_form_l0 k k (s, s.2.2.1, ln s.2.2.1, 0, ()))) = some b ∧ (b = true ↔ SchOk s) := fun e h => ⟨false, by rw [e]; rfl, by simp, fun g => absurd g h⟩
  by_cases h1 : 1 ≤ s.1
  rotate_left
  · rw [if_neg h1]; exact no rfl fun h => absurd h.len.1 h1
  rw [if_pos h1]
  by_cases h2 : s.1 ≤ 512
  rotate_left
  · rw [if_neg h2]; exact no rfl fun h => absurd h.len.2 h2
  rw [if_pos h2]
  by_cases h3 : 1 ≤ s.2.1
  rotate_left
  · rw [if_neg h3]; exact no rfl fun h => absurd h.offs.1 h3
  rw [if_pos h3]
  by_cases h4 : s.2.1 ≤ 16
  rotate_left
  · exact no (by simp [h4]) fun h => absurd h.offs.2 h4
  simp only [h4, decide_true, obind_some, Bool.not_true, tst_false]
  by_cases h5 : 512 < ln s.2.2.1
  · rw [if_pos h5]; exact ⟨false, rfl, by simp, fun h => absurd h.few (by simp only [ln] at h5; omega)⟩
  rw [if_neg h5]
  simp only [ln] at h5
  obtain ⟨b, b1, b2⟩ := form_loop hk (s := s) (by omega)
  exact ⟨b, b1, b2.trans ⟨fun g => ⟨⟨h1, h2⟩, ⟨h3, h4⟩, by omega, g⟩, fun g => g.cell⟩⟩
theorem ref35_Formed_eq {k : Nat} (hk : Fuel k) (s : Schedule) : ∃ b, ref35_Formed k s = some b ∧ (b = true ↔ SchOk s) := by
  have hin : ∀ n lo hi : Int, ref35_in k n lo hi = some (decide (lo ≤ n ∧ n ≤ hi)) := fun n lo hi => by
    unfold ref35_in
    rw [tst_dec]
    by_cases h : lo ≤ n <;> simp [h]
  unfold ref35_Formed
  simp only [hin, obind_some, tst_not, tst_dec]
  by_cases h1 : 1 ≤ s.1 ∧ s.1 ≤ 512
  rotate_left
  · rw [if_neg h1]; exact ⟨false, rfl, by simp, fun h => absurd h.len h1⟩
  rw [if_pos h1]
  by_cases h2 : 1 ≤ s.2.1 ∧ s.2.1 ≤ 16
  rotate_left
  · rw [if_neg h2]; exact ⟨false, rfl, by simp, fun h => absurd h.offs h2⟩
  rw [if_pos h2]
  by_cases h5 : 512 < ln s.2.2.1
  · rw [if_pos h5]; exact ⟨false, rfl, by simp, fun h => absurd h.few (by simp only [ln] at h5; omega)⟩
  rw [if_neg h5]
  simp only [ln] at h5
  obtain ⟨b, b1, b2⟩ := formed_loop hk h1 h2 (s := s) (by omega)
  exact ⟨b, b1, b2.trans ⟨fun g => ⟨h1, h2, by omega, g⟩, fun g => g.cell⟩⟩
end Go.Evl.Sh
