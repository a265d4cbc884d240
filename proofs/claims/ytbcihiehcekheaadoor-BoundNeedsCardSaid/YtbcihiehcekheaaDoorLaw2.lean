/-
  The checks of a network: links, and the whole.
  Conditions: none.
-/
import Derived.Test.YtbcihiehcekheaaDoorLaw1
namespace Go.Evl.Sh
open Go Go.Evl
set_option linter.unusedVariables false
set_option linter.unusedSimpArgs false

theorem cmp_eq (k : Nat) (x y : Int) : cmp_Compare_int k x y = some (if x < y then -1 else if y < x then 1 else 0) := by
  unfold cmp_Compare_int cmp_isNaN_int
  simp only [obind_some, tst_dec, beq_self_eq_true, Bool.not_true, tst_false]
  split
  · rfl
  · split <;> rfl
theorem or2_eq {k : Nat} (hk : Fuel k) (a b : Int) : cmp_Or_int k [a, b] = some (if a ≠ 0 then a else b) := by
  obtain ⟨k, rfl⟩ : ∃ k', k = k' + 3 := ⟨k - 3, by unfold Fuel at hk; omega⟩
  unfold cmp_Or_int cmp_Or_int_l0
  simp only [loopK_succ, ln, List.length_cons, List.length_nil, tst_dec, tst_not, tst_beq]
  have e1 : w64 (0 + 1) = 1 := by decide
  have e2 : w64 (1 + 1) = 2 := by decide
  simp only [e1, e2, ix, obind_some]
  by_cases ha : a = 0 <;> by_cases hb : b = 0 <;> simp [ha, hb, obind_some]
/-- One link stands before another one. -/
def Before (a b : Link) : Prop := a.1 < b.1 ∨ a.1 = b.1 ∧ a.2.1 < b.2.1
instance (a b : Link) : Decidable (Before a b) := by unfold Before; exact inferInstance
theorem compare_eq {k : Nat} (hk : Fuel k) (a b : Link) : ∃ c, network_compare k a b = some c ∧ (0 ≤ c ↔ ¬ Before a b) ∧ (c = 0 ↔ a.1 = b.1 ∧ a.2.1 = b.2.1) := by
  unfold network_compare
  simp only [cmp_eq, obind_some, or2_eq hk]
  refine ⟨_, rfl, ?_, ?_⟩
  · unfold Before
    repeat' split
    all_goals omega
  · repeat' split
    all_goals omega
/-- A link has its form. -/
structure LinkOk (n : Network) (i : Nat) (l : Link) (m : Int) : Prop where
  a : 0 ≤ l.1 ∧ l.1 < n.1
  b : 0 ≤ l.2.1 ∧ l.2.1 < n.1
  ne : l.1 ≠ l.2.1
  loss : 0 ≤ l.2.2.1 ∧ l.2.2.1 ≤ 7
  ord : 0 < i → ∀ p, n.2.2.2.2.1[i - 1]? = some p → Before p l
  marg : 0 ≤ m ∧ ∀ r p, n.2.1[l.1.toNat]? = some r → r[l.2.1.toNat]? = some p → m ≤ p
theorem power_at {n : Network} (ht : TableOk n) {a b : Int} (ha : 0 ≤ a ∧ a < n.1) (hb : 0 ≤ b ∧ b < n.1) : ∃ r p, ix n.2.1 a = some r ∧ ix r b = some p ∧ n.2.1[a.toNat]? = some r ∧ r[b.toNat]? = some p := by
  have hl := ht.len
  obtain ⟨r, h1, h2⟩ := ix_ex n.2.1 ha.1 (by omega)
  have hr := ht.row r (List.mem_of_getElem? h2)
  obtain ⟨p, h3, h4⟩ := ix_ex r hb.1 (by omega)
  exact ⟨r, p, h1, h3, h2, h4⟩
theorem checkLink_eq {k : Nat} (hk : Fuel k) {n : Network} (ht : TableOk n) {i : Nat} (hl : Len n.2.2.2.2.1) (hm : n.2.2.2.2.2.1.length = n.2.2.2.2.1.length) {l : Link} {m : Int} (hi : n.2.2.2.2.1[i]? = some l) (hmi : n.2.2.2.2.2.1[i]? = some m) :
    ∃ e, network_checkLink k n (i : Int) = some e ∧ (e = 0 ↔ LinkOk n i l m) := by
  have hlt : i < n.2.2.2.2.1.length := (List.getElem?_eq_some_iff.1 hi).1
  unfold Len at hl
  unfold network_checkLink
  simp only [ix_nat, hi, hmi, obind_some, tst_dec, tst_not, tst_beq]
  by_cases h1 : 0 ≤ l.1
  rotate_left
  · rw [if_neg h1]; exact ⟨2, rfl, by simp, fun h => absurd h.a.1 h1⟩
  rw [if_pos h1]
  by_cases h2 : l.1 < n.1
  rotate_left
  · rw [if_neg h2]; exact ⟨2, rfl, by simp, fun h => absurd h.a.2 h2⟩
  rw [if_pos h2]
  by_cases h3 : 0 ≤ l.2.1
  rotate_left
  · rw [if_neg h3]; exact ⟨2, rfl, by simp, fun h => absurd h.b.1 h3⟩
  rw [if_pos h3]
  by_cases h4 : l.2.1 < n.1
  rotate_left
  · rw [if_neg h4]; exact ⟨2, rfl, by simp, fun h => absurd h.b.2 h4⟩
  rw [if_pos h4]
  by_cases h5 : l.1 = l.2.1
  · rw [if_pos h5]; exact ⟨2, rfl, by simp, fun h => absurd h5 h.ne⟩
  rw [if_neg h5]
  by_cases h6 : l.2.2.1 < 0
  · rw [if_pos h6]; exact ⟨2, rfl, by simp, fun h => absurd h.loss.1 (by omega)⟩
  rw [if_neg h6]
  by_cases h7 : 7 < l.2.2.1
  · rw [if_pos h7]; exact ⟨2, rfl, by simp, fun h => absurd h.loss.2 (by omega)⟩
  rw [if_neg h7]
  obtain ⟨r, p, p1, p2, p3, p4⟩ := power_at ht ⟨h1, h2⟩ ⟨h3, h4⟩
  simp only [p1, p2, obind_some]
  have fin : (0 < i → ∀ q, n.2.2.2.2.1[i - 1]? = some q → Before q l) → ∃ e, (if m < 0 then some 2 else if p < m then some 2 else some (0 : Int)) = some e ∧ (e = 0 ↔ LinkOk n i l m) := by
    intro ho
    by_cases h8 : m < 0
    · rw [if_pos h8]; exact ⟨2, rfl, by simp, fun h => absurd h.marg.1 (by omega)⟩
    rw [if_neg h8]
    by_cases h9 : p < m
    · rw [if_pos h9]; exact ⟨2, rfl, by simp, fun h => absurd (h.marg.2 r p p3 p4) (by omega)⟩
    rw [if_neg h9]
    exact ⟨0, rfl, fun _ => ⟨⟨h1, h2⟩, ⟨h3, h4⟩, h5, ⟨by omega, by omega⟩, ho, ⟨by omega, fun r' p' q1 q2 => by
      rw [p3] at q1; cases q1
      rw [p4] at q2; cases q2
      omega⟩⟩, fun _ => rfl⟩
  by_cases h10 : (0 : Int) < i
  · rw [if_pos h10]
    have e1 : w64 ((i : Int) - 1) = ((i - 1 : Nat) : Int) := by rw [w64_of ⟨by omega, by omega⟩]; omega
    have hq : n.2.2.2.2.1[i - 1]? = some (n.2.2.2.2.1[i - 1]'(by omega)) := List.getElem?_eq_getElem _
    generalize n.2.2.2.2.1[i - 1]'(by omega) = q at hq
    rw [e1, ix_nat, hq, obind_some]
    obtain ⟨c, c1, c2, _⟩ := compare_eq hk q l
    rw [c1, obind_some]
    by_cases h11 : 0 ≤ c
    · rw [if_pos h11]
      exact ⟨5, rfl, by simp, fun h => absurd (h.ord (by omega) q hq) (c2.1 h11)⟩
    · rw [if_neg h11]
      refine fin (fun _ q' hq' => ?_)
      rw [hq] at hq'; cases hq'
      exact Classical.byContradiction fun hb => h11 (c2.2 hb)
  · rw [if_neg h10]
    exact fin (fun h => by omega)
theorem ref31_link_eq {k : Nat} (hk : Fuel k) {n : Network} (ht : TableOk n) (h2n : 2 ≤ n.1) (hin : In64 n.1) {i : Nat} (hl : Len n.2.2.2.2.1) (hm : n.2.2.2.2.2.1.length = n.2.2.2.2.1.length) {l : Link} {m : Int} (hi : n.2.2.2.2.1[i]? = some l) (hmi : n.2.2.2.2.2.1[i]? = some m) :
    ∃ e, ref31_link k n (i : Int) = some e ∧ (e = 0 ↔ LinkOk n i l m) := by
  have hlt : i < n.2.2.2.2.1.length := (List.getElem?_eq_some_iff.1 hi).1
  unfold Len at hl
  have hw : w64 (n.1 - 1) = n.1 - 1 := w64_of ⟨by have := hin.1; omega, by have := hin.2; omega⟩
  unfold ref31_link
  simp only [ix_nat, hi, hmi, obind_some, tst_not, ref31_in_eq, tst_dec, tst_beq, hw]
  by_cases h1 : 0 ≤ l.1 ∧ l.1 ≤ n.1 - 1
  rotate_left
  · rw [if_neg h1]; exact ⟨2, rfl, by simp, fun h => absurd h.a (by omega)⟩
  rw [if_pos h1]
  by_cases h3 : 0 ≤ l.2.1 ∧ l.2.1 ≤ n.1 - 1
  rotate_left
  · rw [if_neg h3]; exact ⟨2, rfl, by simp, fun h => absurd h.b (by omega)⟩
  rw [if_pos h3]
  by_cases h5 : l.1 = l.2.1
  · rw [if_pos h5]; exact ⟨2, rfl, by simp, fun h => absurd h5 h.ne⟩
  rw [if_neg h5]
  by_cases h6 : 0 ≤ l.2.2.1 ∧ l.2.2.1 ≤ 7
  rotate_left
  · rw [if_neg h6]; exact ⟨2, rfl, by simp, fun h => absurd h.loss (by omega)⟩
  rw [if_pos h6]
  obtain ⟨r, p, p1, p2, p3, p4⟩ := power_at ht ⟨h1.1, by omega⟩ ⟨h3.1, by omega⟩
  simp only [p1, p2, obind_some]
  have fin : (0 < i → ∀ q, n.2.2.2.2.1[i - 1]? = some q → Before q l) → ∃ e, (if 0 ≤ m ∧ m ≤ p then some (0 : Int) else some 2) = some e ∧ (e = 0 ↔ LinkOk n i l m) := by
    intro ho
    by_cases h8 : 0 ≤ m ∧ m ≤ p
    · rw [if_pos h8]
      exact ⟨0, rfl, fun _ => ⟨⟨h1.1, by omega⟩, ⟨h3.1, by omega⟩, h5, h6, ho, ⟨h8.1, fun r' p' q1 q2 => by
        rw [p3] at q1; cases q1
        rw [p4] at q2; cases q2
        exact h8.2⟩⟩, fun _ => rfl⟩
    · rw [if_neg h8]
      exact ⟨2, rfl, by simp, fun h => absurd ⟨h.marg.1, h.marg.2 r p p3 p4⟩ h8⟩
  by_cases h10 : (0 : Int) < i
  · rw [if_pos h10]
    have e1 : w64 ((i : Int) - 1) = ((i - 1 : Nat) : Int) := by rw [w64_of ⟨by omega, by omega⟩]; omega
    have hq : n.2.2.2.2.1[i - 1]? = some (n.2.2.2.2.1[i - 1]'(by omega)) := List.getElem?_eq_getElem _
    generalize n.2.2.2.2.1[i - 1]'(by omega) = q at hq
    rw [e1, ix_nat, hq, obind_some, obind_some, obind_some]
    by_cases h11 : l.1 < q.1
    · rw [if_pos h11]
      exact ⟨5, rfl, by simp, fun h => absurd (h.ord (by omega) q hq) (by unfold Before; omega)⟩
    rw [if_neg h11]
    by_cases h12 : q.1 = l.1
    · rw [if_pos h12]
      by_cases h13 : l.2.1 ≤ q.2.1
      · rw [if_pos h13]
        exact ⟨5, rfl, by simp, fun h => absurd (h.ord (by omega) q hq) (by unfold Before; omega)⟩
      · rw [if_neg h13]
        refine fin (fun _ q' hq' => ?_)
        rw [hq] at hq'; cases hq'
        unfold Before; omega
    · rw [if_neg h12]
      refine fin (fun _ q' hq' => ?_)
      rw [hq] at hq'; cases hq'
      unfold Before; omega
  · rw [if_neg h10]
    exact fin (fun h => by omega)
/-- A network has its form. -/
structure NetOk (n : Network) : Prop where
  nodes : 2 ≤ n.1 ∧ n.1 ≤ 32
  table : TableOk n
  noise : 0 ≤ n.2.2.1 ∧ n.2.2.1 ≤ 68719476736
  thr : 1000 ≤ n.2.2.2.1 ∧ n.2.2.2.1 ≤ 100000
  links : n.2.2.2.2.1.length ≤ 128
  margin : n.2.2.2.2.2.1.length = n.2.2.2.2.1.length
  link : ∀ i l m, n.2.2.2.2.1[i]? = some l → n.2.2.2.2.2.1[i]? = some m → LinkOk n i l m
/-- A loop over the places of a list that ends at the first error. -/
theorem loop_err {T : Type} {F : (T → Option Int) → T → Option Int} {st : Nat → T} {m : Nat} {f : Nat → Int}
    (h : ∀ (rec : T → Option Int) (i : Nat), i < m → F rec (st i) = if f i = 0 then rec (st (i + 1)) else some (f i)) (hf : ∀ rec : T → Option Int, F rec (st m) = some 0) {k : Nat} (hk : m < k) :
    loopK F k (st 0) = some (firstErr f m 0) := by
  rw [loop_scan (stop := fun i => if f i = 0 then none else some (some (f i))) (fun rec i hi => by rw [h rec i hi]; by_cases e : f i = 0 <;> simp [e]) hf m 0 k (by omega) hk]
  exact scan_err m 0 (fun _ _ _ => rfl)
theorem links_of {n : Network} {f : Nat → Int} (hm : n.2.2.2.2.2.1.length = n.2.2.2.2.1.length) (h : ∀ i l m, n.2.2.2.2.1[i]? = some l → n.2.2.2.2.2.1[i]? = some m → (f i = 0 ↔ LinkOk n i l m)) :
    firstErr f n.2.2.2.2.1.length 0 = 0 ↔ ∀ i l m, n.2.2.2.2.1[i]? = some l → n.2.2.2.2.2.1[i]? = some m → LinkOk n i l m := by
  rw [firstErr_zero]
  constructor
  · intro g i l m hl hm'
    exact (h i l m hl hm').1 (g i (Nat.zero_le _) (by have := (List.getElem?_eq_some_iff.1 hl).1; omega))
  · intro g i _ hi
    have h1 : n.2.2.2.2.1[i]? = some (n.2.2.2.2.1[i]'(by omega)) := List.getElem?_eq_getElem _
    have h2 : n.2.2.2.2.2.1[i]? = some (n.2.2.2.2.2.1[i]'(by omega)) := List.getElem?_eq_getElem _
    exact (h i _ _ h1 h2).2 (g i _ _ h1 h2)
theorem network_Check_eq {k : Nat} (hk : Fuel k) {n : Network} (hf : NetFit n) : ∃ e, network_Check k n = some e ∧ (e = 0 ↔ NetOk n) := by
  unfold network_Check
  simp only [tst_dec]
  by_cases h1 : n.1 < 2
  · rw [if_pos h1]; exact ⟨2, rfl, by simp, fun h => absurd h.nodes.1 (by omega)⟩
  rw [if_neg h1]
  by_cases h2 : 32 < n.1
  · rw [if_pos h2]; exact ⟨2, rfl, by simp, fun h => absurd h.nodes.2 (by omega)⟩
  rw [if_neg h2]
  obtain ⟨e, e1, e2⟩ := checkPower_eq hk hf
  rw [e1, obind_some, tst_not, tst_beq]
  by_cases h3 : e = 0
  rotate_left
  · rw [if_neg h3]; exact ⟨e, rfl, fun q => absurd q h3, fun h => absurd (e2.2 h.table) h3⟩
  rw [if_pos h3]
  have ht := e2.1 h3
  by_cases h4 : n.2.2.1 < 0
  · rw [if_pos h4]; exact ⟨2, rfl, by simp, fun h => absurd h.noise.1 (by omega)⟩
  rw [if_neg h4]
  by_cases h5 : 68719476736 < n.2.2.1
  · rw [if_pos h5]; exact ⟨2, rfl, by simp, fun h => absurd h.noise.2 (by omega)⟩
  rw [if_neg h5]
  by_cases h6 : n.2.2.2.1 < 1000
  · rw [if_pos h6]; exact ⟨2, rfl, by simp, fun h => absurd h.thr.1 (by omega)⟩
  rw [if_neg h6]
  by_cases h7 : 100000 < n.2.2.2.1
  · rw [if_pos h7]; exact ⟨2, rfl, by simp, fun h => absurd h.thr.2 (by omega)⟩
  rw [if_neg h7]
  by_cases h8 : 128 < ln n.2.2.2.2.1
  · rw [if_pos h8]; exact ⟨8, rfl, by simp, fun h => absurd h.links (by simp only [ln] at h8; omega)⟩
  rw [if_neg h8, tst_not, tst_beq]
  by_cases h9 : ln n.2.2.2.2.2.1 = ln n.2.2.2.2.1
  rotate_left
  · rw [if_neg h9]; exact ⟨11, rfl, by simp, fun h => absurd h.margin (by simp only [ln] at h9; omega)⟩
  rw [if_pos h9]
  simp only [ln] at h8 h9
  have hm : n.2.2.2.2.2.1.length = n.2.2.2.2.1.length := by omega
  have hx : ∀ i, i < n.2.2.2.2.1.length → ∃ e, network_checkLink k n (i : Int) = some e ∧ ∀ l m, n.2.2.2.2.1[i]? = some l → n.2.2.2.2.2.1[i]? = some m → (e = 0 ↔ LinkOk n i l m) := fun i hi => by
    have h1 : n.2.2.2.2.1[i]? = some n.2.2.2.2.1[i] := List.getElem?_eq_getElem _
    have h2 : n.2.2.2.2.2.1[i]? = some (n.2.2.2.2.2.1[i]'(by omega)) := List.getElem?_eq_getElem _
    obtain ⟨e, e1, e2⟩ := checkLink_eq hk ht hf.links hm h1 h2
    exact ⟨e, e1, fun l m q1 q2 => by rw [h1] at q1; rw [h2] at q2; cases q1; cases q2; exact e2⟩
  let f : Nat → Int := fun i => (network_checkLink k n (i : Int)).getD 0
  have hfx : ∀ i, i < n.2.2.2.2.1.length → network_checkLink k n (i : Int) = some (f i) := fun i hi => by
    obtain ⟨e, e1, _⟩ := hx i hi
    show _ = some ((network_checkLink k n (i : Int)).getD 0)
    rw [e1]; rfl
  have hloop : network_Check_l0 k k (n, ln n.2.2.2.2.1, 0, ()) = some (firstErr f n.2.2.2.2.1.length 0) := by
    refine loop_err (st := fun i => (n, ln n.2.2.2.2.1, (i : Int), ())) (fun rec i hi => ?_) (fun rec => by simp [tst_dec, ln, tst_false]) (by unfold Fuel at hk; omega)
    simp only [tst_dec, ln, Int.ofNat_lt, hi, if_true, hfx i hi, obind_some, tst_not, tst_beq, w64_succ (show i < 9223372036854775807 by omega)]
  rw [hloop]
  refine ⟨_, rfl, ?_⟩
  rw [links_of hm (fun i l m q1 q2 => by
    have hi := (List.getElem?_eq_some_iff.1 q1).1
    obtain ⟨e, e1, e2⟩ := hx i hi
    have : f i = e := by show (network_checkLink k n (i : Int)).getD 0 = e; rw [e1]; rfl
    rw [this]; exact e2 l m q1 q2)]
  exact ⟨fun g => ⟨⟨by omega, by omega⟩, ht, ⟨by omega, by omega⟩, ⟨by omega, by omega⟩, by omega, hm, g⟩, fun g => g.link⟩
theorem ref31_Check_eq {k : Nat} (hk : Fuel k) {n : Network} (hf : NetFit n) : ∃ e, ref31_Check k n = some e ∧ (e = 0 ↔ NetOk n) := by
  unfold ref31_Check
  simp only [ref31_in_eq, obind_some, tst_not, tst_dec, tst_beq]
  by_cases h1 : 2 ≤ n.1 ∧ n.1 ≤ 32
  rotate_left
  · rw [if_neg h1]; exact ⟨2, rfl, by simp, fun h => absurd h.nodes h1⟩
  rw [if_pos h1]
  obtain ⟨e, e1, e2⟩ := ref31_table_eq hk hf
  rw [e1, obind_some]
  by_cases h3 : e = 0
  rotate_left
  · rw [if_neg h3]; exact ⟨e, rfl, fun q => absurd q h3, fun h => absurd (e2.2 h.table) h3⟩
  rw [if_pos h3]
  have ht := e2.1 h3
  by_cases h4 : 0 ≤ n.2.2.1 ∧ n.2.2.1 ≤ 68719476736
  rotate_left
  · rw [if_neg h4]; exact ⟨2, rfl, by simp, fun h => absurd h.noise h4⟩
  rw [if_pos h4]
  by_cases h6 : 1000 ≤ n.2.2.2.1 ∧ n.2.2.2.1 ≤ 100000
  rotate_left
  · rw [if_neg h6]; exact ⟨2, rfl, by simp, fun h => absurd h.thr h6⟩
  rw [if_pos h6]
  by_cases h8 : 128 < ln n.2.2.2.2.1
  · rw [if_pos h8]; exact ⟨8, rfl, by simp, fun h => absurd h.links (by simp only [ln] at h8; omega)⟩
  rw [if_neg h8]
  by_cases h9 : ln n.2.2.2.2.2.1 = ln n.2.2.2.2.1
  rotate_left
  · rw [if_neg h9]; exact ⟨11, rfl, by simp, fun h => absurd h.margin (by simp only [ln] at h9; omega)⟩
  rw [if_pos h9]
  simp only [ln] at h8 h9
  have hm : n.2.2.2.2.2.1.length = n.2.2.2.2.1.length := by omega
  have hx : ∀ i, i < n.2.2.2.2.1.length → ∃ e, ref31_link k n (i : Int) = some e ∧ ∀ l m, n.2.2.2.2.1[i]? = some l → n.2.2.2.2.2.1[i]? = some m → (e = 0 ↔ LinkOk n i l m) := fun i hi => by
    have h1' : n.2.2.2.2.1[i]? = some n.2.2.2.2.1[i] := List.getElem?_eq_getElem _
    have h2' : n.2.2.2.2.2.1[i]? = some (n.2.2.2.2.2.1[i]'(by omega)) := List.getElem?_eq_getElem _
    obtain ⟨e, e1, e2⟩ := ref31_link_eq hk ht h1.1 hf.nodes hf.links hm h1' h2'
    exact ⟨e, e1, fun l m q1 q2 => by rw [h1'] at q1; rw [h2'] at q2; cases q1; cases q2; exact e2⟩
  let f : Nat → Int := fun i => (ref31_link k n (i : Int)).getD 0
  have hfx : ∀ i, i < n.2.2.2.2.1.length → ref31_link k n (i : Int) = some (f i) := fun i hi => by
    obtain ⟨e, e1, _⟩ := hx i hi
    show _ = some ((ref31_link k n (i : Int)).getD 0)
    rw [e1]; rfl
  have hloop : ref31_Check_l0 k k (n, 0, ()) = some (firstErr f n.2.2.2.2.1.length 0) := by
    refine loop_err (st := fun i => (n, (i : Int), ())) (fun rec i hi => ?_) (fun rec => by simp [tst_dec, ln, tst_false]) (by unfold Fuel at hk; omega)
    simp only [tst_dec, ln, Int.ofNat_lt, hi, if_true, hfx i hi, obind_some, tst_not, tst_beq, w64_succ (show i < 9223372036854775807 by omega)]
  rw [hloop]
  refine ⟨_, rfl, ?_⟩
  rw [links_of hm (fun i l m q1 q2 => by
    have hi := (List.getElem?_eq_some_iff.1 q1).1
    obtain ⟨e, e1, e2⟩ := hx i hi
    have : f i = e := by show (ref31_link k n (i : Int)).getD 0 = e; rw [e1]; rfl
    rw [this]; exact e2 l m q1 q2)]
  exact ⟨fun g => ⟨h1, ht, h4, h6, by omega, hm, g⟩, fun g => g.link⟩
end Go.Evl.Sh
