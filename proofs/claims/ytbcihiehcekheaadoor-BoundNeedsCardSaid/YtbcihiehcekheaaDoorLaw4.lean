/-
  The text of a schedule: that it is made, and when there is none.
  Conditions: none.
-/
import Derived.Test.YtbcihiehcekheaaDoorLaw3
import Derived.Lib.ItoaLen
namespace Go.Evl.Sh
open Go Go.Evl
set_option linter.unusedVariables false
set_option linter.unusedSimpArgs false

theorem sapp_size (a b : ByteArray) : (std.sapp a b).size = a.size + b.size := by
  show (a ++ b).size = _
  exact ByteArray.size_append
theorem sfits_of {a b : ByteArray} (h : a.size + b.size ≤ 1000000) : std.sfits a b = true := by
  show Nat.ble (a.size + b.size) 9223372036854775807 = true
  rw [Nat.ble_eq]; omega
theorem itoa_some (k : Nat) {n : Int} (h : In64 n) : ∃ s : ByteArray, strconv_Itoa k n = some s ∧ s.size ≤ 21 := by
  unfold strconv_Itoa
  rw [if_pos ⟨h.1, h.2⟩]
  refine ⟨_, rfl, ?_⟩
  have := Lib.itoa_length_le n h.1 h.2
  show (Lib.itoa n).toArray.size ≤ 21
  simpa using this
theorem line_loop {k : Nat} {xs : List Int} (hx : ∀ x ∈ xs, In64 x) (hl : xs.length ≤ 10) {κ0 : (ByteArray × (List Int) × Int × Int × Unit) → Option ByteArray} :
    ∀ (m i k' : Nat) (w : ByteArray), i + m = xs.length → m < k' → w.size ≤ 100 + 22 * i → ∃ w' : ByteArray, w'.size ≤ 100 + 22 * xs.length ∧ schedule_line_l0 k κ0 k' (w, xs, ln xs, (i : Int), ()) = κ0 (w', xs, ln xs, (xs.length : Int), ())
  | 0, i, k', w, hi, hk, hw => by
    obtain ⟨k', rfl⟩ : ∃ q, k' = q + 1 := ⟨k' - 1, by omega⟩
    have : i = xs.length := by omega
    subst this
    refine ⟨w, hw, ?_⟩
    unfold schedule_line_l0
    rw [loopK_succ]
    simp [ln, tst_false]
  | m + 1, i, k', w, hi, hk, hw => by
    obtain ⟨k', rfl⟩ : ∃ q, k' = q + 1 := ⟨k' - 1, by omega⟩
    have hlt : i < xs.length := by omega
    obtain ⟨s, s1, s2⟩ := itoa_some k (hx _ (List.getElem_mem hlt))
    have z1 : (ByteArray.mk #[32]).size = 1 := rfl
    have h1 : std.sfits (ByteArray.mk #[32]) s = true := sfits_of (by omega)
    have h2 : std.sfits w (std.sapp (ByteArray.mk #[32]) s) = true := sfits_of (by rw [sapp_size]; omega)
    obtain ⟨w', w1, w2⟩ := line_loop (k := k) hx hl (κ0 := κ0) m (i + 1) k' (std.sapp w (std.sapp (ByteArray.mk #[32]) s)) (by omega) (by omega) (by rw [sapp_size, sapp_size]; omega)
    refine ⟨w', w1, ?_⟩
    rw [← w2]
    unfold schedule_line_l0
    rw [loopK_succ]
    simp only [ln, Int.ofNat_lt, hlt, decide_true, tst_true, ix_lt _ hlt, obind_some, s1, h1, h2, w64_succ (show i < 9223372036854775807 by omega)]
theorem line_some {k : Nat} (hk : Fuel k) {w : ByteArray} (hw : w.size ≤ 100) {xs : List Int} (hx : ∀ x ∈ xs, In64 x) (hl : xs.length ≤ 10) : ∃ s : ByteArray, schedule_line k w xs = some s ∧ 0 < s.size ∧ s.size ≤ 400 := by
  unfold schedule_line
  obtain ⟨w', h1, h2⟩ := line_loop (k := k) hx hl (κ0 := fun t1 =>
    tst (std.sfits t1.1 (ByteArray.mk #[10]))
      (some (std.sapp t1.1 (ByteArray.mk #[10])))
      none) xs.length 0 k w (by omega) (by unfold Fuel at hk; omega) (by omega)
  have z1 : (ByteArray.mk #[10]).size = 1 := rfl
  have h3 : std.sfits w' (ByteArray.mk #[10]) = true := sfits_of (by omega)
  refine ⟨std.sapp w' (ByteArray.mk #[10]), ?_, by rw [sapp_size]; omega, by rw [sapp_size]; omega⟩
  refine h2.trans ?_
  show tst (std.sfits w' (ByteArray.mk #[10])) _ _ = _
  rw [h3, tst_true]
theorem sby_range (s : ByteArray) : ∀ n ∈ std.sby s, (0 : Int) ≤ n ∧ n ≤ 255 := by
  intro n hn
  have hn : n ∈ s.data.toList.map fun b => (b.toNat : Int) := hn
  obtain ⟨b, _, rfl⟩ := List.mem_map.1 hn
  have := b.toNat_lt
  omega
theorem sby_length (s : ByteArray) : (std.sby s).length = s.size := by
  show (s.data.toList.map _).length = _
  rw [List.length_map]; rfl
theorem fit_of {xs ys : List Int} (h : xs.length + ys.length ≤ 1000000) : fit 1 xs ys = true := by
  show decide ((xs.length + ys.length) * 1 ≤ 140737488355328) = true
  simp; omega
theorem print_loop {k : Nat} (hk : Fuel k) {cs : List Cell} (hc : ∀ c ∈ cs, In64 c.1 ∧ In64 c.2.1 ∧ In64 c.2.2.1 ∧ In64 c.2.2.2.1 ∧ In64 c.2.2.2.2.1) (hl : cs.length ≤ 512) {κ0 : ((List Cell) × Int × Int × (List Int) × Unit) → Option (ByteArray × Int × Unit)} :
    ∀ (m i k' : Nat) (xs : List Int), i + m = cs.length → m < k' → xs.length ≤ 400 * (i + 1) → xs ≠ [] → (∀ n ∈ xs, (0 : Int) ≤ n ∧ n ≤ 255) →
      ∃ ys : List Int, ys.length ≤ 400 * (cs.length + 1) ∧ ys ≠ [] ∧ (∀ n ∈ ys, (0 : Int) ≤ n ∧ n ≤ 255) ∧ schedule_Print_l0 k κ0 k' (cs, ln cs, (i : Int), xs, ()) = κ0 (cs, ln cs, (cs.length : Int), ys, ())
  | 0, i, k', xs, hi, hk', h1, h2, h3 => by
    obtain ⟨k', rfl⟩ : ∃ q, k' = q + 1 := ⟨k' - 1, by omega⟩
    have : i = cs.length := by omega
    subst this
    refine ⟨xs, h1, h2, h3, ?_⟩
    unfold schedule_Print_l0
    rw [loopK_succ]
    simp [ln, tst_false]
  | m + 1, i, k', xs, hi, hk', h1, h2, h3 => by
    obtain ⟨k', rfl⟩ : ∃ q, k' = q + 1 := ⟨k' - 1, by omega⟩
    have hlt : i < cs.length := by omega
    obtain ⟨c1, c2, c3, c4, c5⟩ := hc _ (List.getElem_mem hlt)
    obtain ⟨s, s1, s2, s3⟩ := line_some hk (w := ByteArray.mk #[99, 101, 108, 108]) (by decide) (xs := [cs[i].1, cs[i].2.1, cs[i].2.2.1, cs[i].2.2.2.1, cs[i].2.2.2.2.1]) (by
      intro x hx
      simp only [List.mem_cons, List.not_mem_nil, or_false] at hx
      rcases hx with rfl | rfl | rfl | rfl | rfl <;> assumption) (by simp)
    have hsl := sby_length s
    have hfit : fit 1 xs (std.sby s) = true := fit_of (by omega)
    obtain ⟨ys, y1, y2, y3, y4⟩ := print_loop hk hc hl (κ0 := κ0) m (i + 1) k' (xs ++ std.sby s) (by omega) (by omega) (by rw [List.length_append]; omega) (by simp [h2]) (by
      intro n hn
      rcases List.mem_append.1 hn with hn | hn
      · exact h3 n hn
      · exact sby_range s n hn)
    refine ⟨ys, y1, y2, y3, ?_⟩
    rw [← y4]
    unfold schedule_Print_l0
    rw [loopK_succ]
    simp only [ln, Int.ofNat_lt, hlt, decide_true, tst_true, ix_lt _ hlt, obind_some, schedule_numbers, s1, hfit, w64_succ (show i < 9223372036854775807 by omega)]
theorem Print_eq {k : Nat} (hk : Fuel k) (s : Schedule) : ∃ t e, schedule_Print k s = some (t, e, ()) ∧ (e = 0 ↔ SchOk s) := by
  unfold schedule_Print
  obtain ⟨b, b1, b2⟩ := form_eq hk s
  rw [b1, obind_some, tst_not]
  cases b with
  | false => exact ⟨_, 1, rfl, by simp, fun h => absurd (b2.2 h) (by simp)⟩
  | true =>
    rw [tst_true]
    have hs := b2.1 rfl
    obtain ⟨hlen, hoffs, hfew, hcell⟩ := hs
    obtain ⟨t, t1, t2, t3⟩ := line_some hk (w := ByteArray.mk #[115, 99, 104, 101, 100, 117, 108, 101]) (by decide) (xs := [s.1, s.2.1]) (by
      intro x hx
      simp only [List.mem_cons, List.not_mem_nil, or_false] at hx
      rcases hx with rfl | rfl
      · exact ⟨by omega, by omega⟩
      · exact ⟨by omega, by omega⟩) (by simp)
    have htl := sby_length t
    rw [t1, obind_some, fit_of (xs := []) (by simp; omega), tst_true]
    obtain ⟨ys, y1, y2, y3, y4⟩ := print_loop hk (cs := s.2.2.1) (fun c hc => by
      obtain ⟨i, hi⟩ := List.mem_iff_getElem?.1 hc
      obtain ⟨⟨p1, p2, p3, p4, p5⟩, _⟩ := hcell i c hi
      exact ⟨⟨by omega, by omega⟩, ⟨by omega, by omega⟩, ⟨by omega, by omega⟩, ⟨by omega, by omega⟩, ⟨by omega, by omega⟩⟩) hfew (κ0 := fun t3 =>
        tst ((fit 1 t3.2.2.2.1 []) && (std.bys t3.2.2.2.1))
          (some (std.yb t3.2.2.2.1, 0, ()))
          none) s.2.2.1.length 0 k ([] ++ std.sby t) (by omega) (by unfold Fuel at hk; omega) (by simp; omega) (by
        simp only [List.nil_append]
        intro q
        rw [q] at htl
        simp at htl; omega) (by simpa using sby_range t)
    have hb : (fit 1 ys [] && std.bys ys) = true := by
      rw [fit_of (by simp; omega), Bool.true_and]
      show (!ys.isEmpty && ys.all fun n => decide (0 ≤ n) && decide (n ≤ 255)) = true
      simp only [Bool.and_eq_true, Bool.not_eq_true', List.isEmpty_eq_false_iff, List.all_eq_true, decide_eq_true_eq]
      exact ⟨y2, y3⟩
    refine ⟨std.yb ys, 0, ?_, fun _ => ⟨hlen, hoffs, hfew, hcell⟩, fun _ => rfl⟩
    refine Eq.trans y4 ?_
    show tst (fit 1 ys [] && std.bys ys) _ _ = _
    rw [hb, tst_true]
end Go.Evl.Sh
