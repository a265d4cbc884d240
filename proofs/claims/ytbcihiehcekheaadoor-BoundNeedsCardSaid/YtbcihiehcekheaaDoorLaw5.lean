/-
  The links of a network: where one lies.
  Conditions: none.
-/
import Derived.Test.YtbcihiehcekheaaDoorLaw4
namespace Go.Evl.Sh
open Go Go.Evl
set_option linter.unusedVariables false
set_option linter.unusedSimpArgs false

theorem Before.trans {a b c : Link} (h : Before a b) (g : Before b c) : Before a c := by unfold Before at *; omega
theorem sorted_of {n : Network} (hn : NetOk n) : ∀ (d i : Nat) (a b : Link), n.2.2.2.2.1[i]? = some a → n.2.2.2.2.1[i + d + 1]? = some b → Before a b
  | 0, i, a, b, ha, hb => by
    have hlt := (List.getElem?_eq_some_iff.1 hb).1
    have hm : n.2.2.2.2.2.1[i + 0 + 1]? = some (n.2.2.2.2.2.1[i + 0 + 1]'(by rw [hn.margin]; exact hlt)) := List.getElem?_eq_getElem _
    exact (hn.link _ _ _ hb hm).ord (by omega) a (by simpa using ha)
  | d + 1, i, a, b, ha, hb => by
    have hlt := (List.getElem?_eq_some_iff.1 hb).1
    have hm : n.2.2.2.2.2.1[i + (d + 1) + 1]? = some (n.2.2.2.2.2.1[i + (d + 1) + 1]'(by rw [hn.margin]; exact hlt)) := List.getElem?_eq_getElem _
    have hc : n.2.2.2.2.1[i + d + 1]? = some (n.2.2.2.2.1[i + d + 1]'(by omega)) := List.getElem?_eq_getElem _
    have h1 := sorted_of hn d i a _ ha hc
    exact h1.trans ((hn.link _ _ _ hb hm).ord (by omega) _ (by rw [← hc]; congr 1))
theorem sorted_lt {n : Network} (hn : NetOk n) {i j : Nat} {a b : Link} (h : i < j) (ha : n.2.2.2.2.1[i]? = some a) (hb : n.2.2.2.2.1[j]? = some b) : Before a b :=
  sorted_of hn (j - i - 1) i a b ha (by rw [← hb]; congr 1; omega)
/-- Where a link lies, or -1. -/
def FindOk (n : Network) (a b v : Int) : Prop := (v = -1 ∧ ∀ l ∈ n.2.2.2.2.1, ¬ (l.1 = a ∧ l.2.1 = b)) ∨ ∃ (i : Nat) (l : Link), v = (i : Int) ∧ n.2.2.2.2.1[i]? = some l ∧ l.1 = a ∧ l.2.1 = b
theorem FindOk.unique {n : Network} (hn : NetOk n) {a b v w : Int} (h : FindOk n a b v) (g : FindOk n a b w) : v = w := by
  rcases h with ⟨rfl, h⟩ | ⟨i, l, rfl, h1, h2, h3⟩ <;> rcases g with ⟨rfl, g⟩ | ⟨j, m, rfl, g1, g2, g3⟩
  · rfl
  · exact absurd ⟨g2, g3⟩ (h m (List.mem_of_getElem? g1))
  · exact absurd ⟨h2, h3⟩ (g l (List.mem_of_getElem? h1))
  · rcases Nat.lt_trichotomy i j with q | q | q
    · have := sorted_lt hn q h1 g1
      unfold Before at this; omega
    · rw [q]
    · have := sorted_lt hn q g1 h1
      unfold Before at this; omega
theorem ref31_Find_eq {k : Nat} (hk : Fuel k) {n : Network} (hl : n.2.2.2.2.1.length ≤ 128) (a b : Int) : ∃ v, ref31_Find k n a b = some v ∧ FindOk n a b v := by
  classical
  unfold ref31_Find ref31_Find_l0
  let P : Nat → Prop := fun i => ∃ l, n.2.2.2.2.1[i]? = some l ∧ l.1 = a ∧ l.2.1 = b
  obtain ⟨h1, h2⟩ := loop_find (st := fun i => (a, b, n, (i : Int), ())) (n := n.2.2.2.2.1.length) (P := P) (r := fun i => some (i : Int)) (fin := some (-1)) (k := k) (F := fun rec0 (t1 : Int × Int × Network × Int × Unit) =>
    tst (decide (t1.2.2.2.1 < (ln t1.2.2.1.2.2.2.2.1)))
      (obind (ix t1.2.2.1.2.2.2.2.1 t1.2.2.2.1) fun v2 =>
      tst (v2.1 == t1.1)
        (obind (ix t1.2.2.1.2.2.2.2.1 t1.2.2.2.1) fun v3 =>
        tst (v3.2.1 == t1.2.1)
          (some t1.2.2.2.1)
          (rec0 (t1.1, t1.2.1, t1.2.2.1, w64 (t1.2.2.2.1 + 1), ())))
        (rec0 (t1.1, t1.2.1, t1.2.2.1, w64 (t1.2.2.2.1 + 1), ())))
      (some (-1))) (fun rec i hi => by
      have hc : n.2.2.2.2.1[i]? = some n.2.2.2.2.1[i] := List.getElem?_eq_getElem _
      generalize n.2.2.2.2.1[i] = c at hc
      have hp : P i ↔ c.1 = a ∧ c.2.1 = b := ⟨fun ⟨l, q1, q2⟩ => by rw [hc] at q1; cases q1; exact q2, fun q => ⟨c, hc, q⟩⟩
      simp only [tst_dec, ln, Int.ofNat_lt, hi, if_true, ix_nat, hc, obind_some, tst_beq, w64_succ (show i < 9223372036854775807 by omega), hp]
      by_cases q1 : c.1 = a <;> by_cases q2 : c.2.1 = b <;> simp [q1, q2]) (fun rec => by simp [tst_dec, ln, tst_false]) (by unfold Fuel at hk; omega)
  by_cases hx : ∃ i, i < n.2.2.2.2.1.length ∧ P i
  · obtain ⟨j, hj, hp, hb⟩ := first_of hx
    refine ⟨_, h2 j hj hp hb, .inr ?_⟩
    obtain ⟨l, q1, q2⟩ := hp
    exact ⟨j, l, rfl, q1, q2⟩
  · refine ⟨_, h1 (fun i hi hp => hx ⟨i, hi, hp⟩), .inl ⟨rfl, fun l hl' q => ?_⟩⟩
    obtain ⟨i, hi⟩ := List.mem_iff_getElem?.1 hl'
    exact hx ⟨i, (List.getElem?_eq_some_iff.1 hi).1, l, hi, q⟩
theorem mid_eq {lo hi : Nat} (h1 : lo ≤ 1000) (h2 : hi ≤ 1000) : w64 (shr .u64 (wk .u64 (w64 ((lo : Int) + (hi : Int)))) 1) = (((lo + hi) / 2 : Nat) : Int) := by
  have e1 : w64 ((lo : Int) + (hi : Int)) = ((lo + hi : Nat) : Int) := by rw [w64_of ⟨by omega, by omega⟩]; omega
  have e2 : wk .u64 ((lo + hi : Nat) : Int) = ((lo + hi : Nat) : Int) := by
    unfold wk IntKind.wrap
    simp [IntKind.bits, IntKind.signed]
    omega
  have e3 : shr .u64 ((lo + hi : Nat) : Int) 1 = (((lo + hi) / 2 : Nat) : Int) := by
    unfold shr
    have : min (1 : Int).toNat (IntKind.bits .u64) = 1 := by decide
    rw [this, Int.fdiv_eq_ediv_of_nonneg _ (by decide)]
    omega
  rw [e1, e2, e3, w64_of ⟨by omega, by omega⟩]
theorem bsearch {k : Nat} (hk : Fuel k) {n : Network} (hn : NetOk n) (t : Link) {κ0 : ((List Link) × Unit × Link × Int × Int × Int × Unit) → Option Int} :
    ∀ (m lo hi k' : Nat), hi - lo ≤ m → m < k' → lo ≤ hi → hi ≤ n.2.2.2.2.1.length → (∀ i l, i < lo → n.2.2.2.2.1[i]? = some l → Before l t) → (∀ i l, hi ≤ i → n.2.2.2.2.1[i]? = some l → ¬ Before l t) →
      ∃ p : Nat, p ≤ n.2.2.2.2.1.length ∧ (∀ i l, i < p → n.2.2.2.2.1[i]? = some l → Before l t) ∧ (∀ i l, p ≤ i → n.2.2.2.2.1[i]? = some l → ¬ Before l t) ∧
        network_find_l0 k κ0 k' (n.2.2.2.2.1, (), t, ln n.2.2.2.2.1, (lo : Int), (hi : Int), ()) = κ0 (n.2.2.2.2.1, (), t, ln n.2.2.2.2.1, (p : Int), (p : Int), ())
  | m, lo, hi, k', hm, hk', hlh, hhl, hb, ha => by
    obtain ⟨k', rfl⟩ : ∃ q, k' = q + 1 := ⟨k' - 1, by omega⟩
    have hlen := hn.links
    by_cases h : lo < hi
    rotate_left
    · have : lo = hi := by omega
      subst this
      refine ⟨lo, hhl, hb, ha, ?_⟩
      unfold network_find_l0
      rw [loopK_succ]
      simp [tst_false]
    · match m, hm, hk' with
      | 0, hm, _ => omega
      | m + 1, hm, hk' =>
      have hmid : (lo + hi) / 2 < n.2.2.2.2.1.length := by omega
      have hc : n.2.2.2.2.1[(lo + hi) / 2]? = some n.2.2.2.2.1[(lo + hi) / 2] := List.getElem?_eq_getElem _
      generalize n.2.2.2.2.1[(lo + hi) / 2] = c at hc
      obtain ⟨v, v1, v2, v3⟩ := compare_eq hk c t
      by_cases hv : v < 0
      · have hbc : Before c t := Classical.byContradiction fun q => by have := v2.2 q; omega
        obtain ⟨p, p1, p2, p3, p4⟩ := bsearch hk hn t (κ0 := κ0) m ((lo + hi) / 2 + 1) hi k' (by omega) (by omega) (by omega) hhl (fun i l hi' hl => by
          by_cases q : i = (lo + hi) / 2
          · subst q; rw [hc] at hl; cases hl; exact hbc
          · exact (sorted_lt hn (by omega) hl hc).trans hbc) ha
        refine ⟨p, p1, p2, p3, ?_⟩
        rw [← p4]
        unfold network_find_l0
        rw [loopK_succ]
        have e : w64 ((((lo + hi) / 2 : Nat) : Int) + 1) = (((lo + hi) / 2 + 1 : Nat) : Int) := w64_succ (by omega)
        simp only [Int.ofNat_lt, h, decide_true, tst_true, mid_eq (show lo ≤ 1000 by omega) (show hi ≤ 1000 by omega), ix_nat, hc, obind_some, v1, hv, e]
      · have hbc : ¬ Before c t := v2.1 (by omega)
        obtain ⟨p, p1, p2, p3, p4⟩ := bsearch hk hn t (κ0 := κ0) m lo ((lo + hi) / 2) k' (by omega) (by omega) (by omega) (by omega) hb (fun i l hi' hl => by
          by_cases q : i = (lo + hi) / 2
          · subst q; rw [hc] at hl; cases hl; exact hbc
          · exact fun g => hbc ((sorted_lt hn (by omega) hc hl).trans g))
        refine ⟨p, p1, p2, p3, ?_⟩
        rw [← p4]
        unfold network_find_l0
        rw [loopK_succ]
        simp only [Int.ofNat_lt, h, decide_true, tst_true, mid_eq (show lo ≤ 1000 by omega) (show hi ≤ 1000 by omega), ix_nat, hc, obind_some, v1, hv, decide_false, tst_false]
theorem network_find_eq {k : Nat} (hk : Fuel k) {n : Network} (hn : NetOk n) (a b : Int) : ∃ v, network_find k n a b = some v ∧ FindOk n a b v := by
  unfold network_find
  have hlen := hn.links
  obtain ⟨p, p1, p2, p3, p4⟩ := bsearch hk hn (a, b, 0, ()) (κ0 := fun t1 =>
    tst (decide (t1.2.2.2.2.1 < t1.2.2.2.1))
      (obind (ix t1.1 t1.2.2.2.2.1) fun v4 =>
      obind (network_compare k v4 t1.2.2.1) fun v5 =>
      tst (!(v5 == 0))
        (some (-1))
        (some t1.2.2.2.2.1))
      (some (-1))) n.2.2.2.2.1.length 0 n.2.2.2.2.1.length k (by omega) (by unfold Fuel at hk; omega) (by omega) (Nat.le_refl _) (fun i l hi _ => by omega) (fun i l hi hl => by
        have := (List.getElem?_eq_some_iff.1 hl).1; omega)
  suffices h : ∃ v, tst (decide ((p : Int) < ln n.2.2.2.2.1)) (obind (ix n.2.2.2.2.1 (p : Int)) fun v4 => obind (network_compare k v4 (a, b, 0, ())) fun v5 => tst (!(v5 == 0)) (some (-1)) (some (p : Int))) (some (-1)) = some v ∧ FindOk n a b v by
    obtain ⟨v, h1, h2⟩ := h
    exact ⟨v, Eq.trans p4 h1, h2⟩
  simp only [tst_dec, ln, Int.ofNat_lt, tst_not, tst_beq]
  have none' : (∀ l, n.2.2.2.2.1[p]? = some l → ¬ (l.1 = a ∧ l.2.1 = b)) → FindOk n a b (-1) := fun h => .inl ⟨rfl, fun l hl q => by
    obtain ⟨i, hi⟩ := List.mem_iff_getElem?.1 hl
    rcases Nat.lt_trichotomy i p with g | g | g
    · have := p2 i l g hi
      unfold Before at this; simp at this; omega
    · subst g; exact h l hi q
    · have hpl : p < n.2.2.2.2.1.length := by have := (List.getElem?_eq_some_iff.1 hi).1; omega
      have hq : n.2.2.2.2.1[p]? = some n.2.2.2.2.1[p] := List.getElem?_eq_getElem _
      have h1 := sorted_lt hn g hq hi
      have h2 := p3 p _ (Nat.le_refl _) hq
      unfold Before at h1 h2; simp at h2; omega⟩
  by_cases hp : p < n.2.2.2.2.1.length
  · rw [if_pos hp]
    have hc : n.2.2.2.2.1[p]? = some n.2.2.2.2.1[p] := List.getElem?_eq_getElem _
    generalize n.2.2.2.2.1[p] = c at hc
    obtain ⟨v, v1, v2, v3⟩ := compare_eq hk c (a, b, 0, ())
    rw [ix_nat, hc, obind_some, v1, obind_some]
    by_cases hv : v = 0
    · rw [if_pos hv]
      exact ⟨_, rfl, .inr ⟨p, c, rfl, hc, v3.1 hv⟩⟩
    · rw [if_neg hv]
      exact ⟨_, rfl, none' fun l hl q => by rw [hc] at hl; cases hl; exact hv (v3.2 q)⟩
  · rw [if_neg hp]
    exact ⟨_, rfl, none' fun l hl q => by have := (List.getElem?_eq_some_iff.1 hl).1; omega⟩
end Go.Evl.Sh
