/-
  What bound.Needed answers; BoundNeeds.
  Conditions: none.
-/
import Derived.Test.YtbcihiehcekheaaDoorLaw16
namespace Go.Evl.Sh
open Go Go.Evl
set_option linter.unusedVariables false
set_option linter.unusedSimpArgs false
variable {n : Network} {s : Schedule} {f : Flow} {r : List Int}

/-- A cell lies in the map. -/
def inMap (mp : List (Cell × Bool × Unit)) (c : Cell) : Bool := mGet mp c false
theorem nd_l6 {k : Nat} {cs : List Cell} (hl : cs.length ≤ 1000) {mp : List (Cell × Bool × Unit)} {a1 a2 r1 r2 : Int} {κ0 : _} :
    ∀ (m j i k' : Nat) (xs : List Cell), j + m = cs.length → m < k' → i ≤ j → xs.length = cs.length → xs.take i = (cs.take j).filter (inMap mp) → xs.drop j = cs.drop j →
      ∃ (ys : List Cell) (i' : Nat), bound_Needed_l6 k κ0 k' (0, (cs.length : Int), (i : Int), (j : Int), a1, a2, (0, r1, r2), xs, [mp], ()) = κ0 (0, (cs.length : Int), (i' : Int), (cs.length : Int), a1, a2, (0, r1, r2), ys, [mp], ()) ∧ ys.length = cs.length ∧ i' ≤ cs.length ∧ ys.take i' = cs.filter (inMap mp)
  | 0, j, i, k', xs, hj, hk, hij, hx, ht, hd => by
    obtain ⟨k', rfl⟩ : ∃ q, k' = q + 1 := ⟨k' - 1, by omega⟩
    have : j = cs.length := by omega
    subst this
    refine ⟨xs, i, ?_, hx, hij, by rw [ht, List.take_length]⟩
    unfold bound_Needed_l6
    rw [loopK_succ]
    simp [tst_false]
  | m + 1, j, i, k', xs, hj, hk, hij, hx, ht, hd => by
    obtain ⟨k', rfl⟩ : ∃ q, k' = q + 1 := ⟨k' - 1, by omega⟩
    have hlt : j < cs.length := by omega
    have hc : cs[j]? = some cs[j] := List.getElem?_eq_getElem _
    have hxc : xs[j]? = some cs[j] := by
      have h1 : (xs.drop j)[0]? = (cs.drop j)[0]? := by rw [hd]
      rw [List.getElem?_drop, List.getElem?_drop, Nat.add_zero] at h1
      rw [h1, hc]
    have htk : cs.take (j + 1) = cs.take j ++ [cs[j]] := by rw [List.take_add_one, hc]; rfl
    generalize cs[j] = c at hc hxc htk
    have hdrop : ∀ ys : List Cell, ys.drop j = cs.drop j → ys.drop (j + 1) = cs.drop (j + 1) := fun ys h => by
      rw [← List.drop_drop, ← List.drop_drop, h]
    have hi1 : i < xs.length := by omega
    have hxi : xs[i]? = some (xs[i]'hi1) := List.getElem?_eq_getElem _
    have e0 : (0 : Int) + (j : Int) = (j : Int) := by omega
    have e1 : (0 : Int) + (i : Int) = (i : Int) := by omega
    have g1 : decide ((0 : Int) ≤ (j : Int)) = true := by simp
    have g2 : decide ((0 : Int) ≤ (i : Int)) = true := by simp
    have hil : i < cs.length := by omega
    cases hk2 : inMap mp c with
    | false =>
      obtain ⟨ys, i', q1, q2, q3, q4⟩ := nd_l6 (k := k) (mp := mp) hl (a1 := a1) (a2 := a2) (r1 := r1) (r2 := r2) (κ0 := κ0) m (j + 1) i k' xs (by omega) (by omega) (by omega) hx (by rw [ht, htk, List.filter_append]; simp [hk2]) (hdrop xs hd)
      refine ⟨ys, i', ?_, q2, q3, q4⟩
      rw [← q1]
      unfold bound_Needed_l6
      rw [loopK_succ]
      generalize loopK _ k' = rec
      unfold inMap at hk2
      simp only [Int.ofNat_lt, hlt, decide_true, tst_true, g1, Bool.and_self, e0, ix_nat, hxc, obind_some, ix_one, tst_not, hk2, tst_false, w64_succ (show j < 9223372036854775807 by omega)]
    | true =>
      have htake : (xs.set i c).take (i + 1) = (cs.take (j + 1)).filter (inMap mp) := by
        rw [htk, List.filter_append, ← ht, List.take_add_one]
        simp [hk2, hi1, List.take_set_of_le]
      have hdr : (xs.set i c).drop (j + 1) = cs.drop (j + 1) := by
        rw [List.drop_set_of_lt (by omega)]; exact hdrop xs hd
      obtain ⟨ys, i', q1, q2, q3, q4⟩ := nd_l6 (k := k) (mp := mp) hl (a1 := a1) (a2 := a2) (r1 := r1) (r2 := r2) (κ0 := κ0) m (j + 1) (i + 1) k' (xs.set i c) (by omega) (by omega) (by omega) (by rw [List.length_set]; exact hx) htake hdr
      refine ⟨ys, i', ?_, q2, q3, q4⟩
      rw [← q1]
      unfold bound_Needed_l6
      rw [loopK_succ]
      generalize loopK _ k' = rec
      have hset : setI xs (i : Int) c = xs.set i c := by simp [setI]
      unfold inMap at hk2
      simp only [Int.ofNat_lt, hlt, hil, decide_true, tst_true, g1, g2, Bool.and_self, e0, e1, ix_nat, hxc, hxi, obind_some, ix_one, tst_not, hk2, hset, w64_succ (show j < 9223372036854775807 by omega), w64_succ (show i < 9223372036854775807 by omega)]
/-- The state of the look for the first cell that goes. -/
def st5 (cs : List Cell) (mp : List (Cell × Bool × Unit)) (r1 r2 : Int) (i : Nat) : Int × Int × Int × Int × Int × Int × Int × Int × Int × Int × (Int × Int × Int) × (List Cell) × (List (List (Cell × Bool × Unit))) × Unit :=
  (0, (cs.length : Int), (cs.length : Int), (i : Int), 0, (cs.length : Int), 0, (cs.length : Int), 0, (cs.length : Int), (0, r1, r2), cs, [mp], ())
theorem nd_l5 {k : Nat} {cs : List Cell} (hl : cs.length ≤ 1000) {mp : List (Cell × Bool × Unit)} {r1 r2 : Int} {κ1 κ2 : _} {X : Option (List Cell × Int × Unit)}
    (h1 : ∀ (i : Nat) (c : Cell), cs[i]? = some c → inMap mp c = false → (cs.take i).filter (inMap mp) = cs.take i → κ1 (st5 cs mp r1 r2 i) = X) (h2 : cs.filter (inMap mp) = cs → κ2 (st5 cs mp r1 r2 cs.length) = X) :
    ∀ (m i k' : Nat), i + m = cs.length → m < k' → (cs.take i).filter (inMap mp) = cs.take i → bound_Needed_l5 k κ1 κ2 k' (st5 cs mp r1 r2 i) = X
  | 0, i, k', hi, hk, ht => by
    obtain ⟨k', rfl⟩ : ∃ q, k' = q + 1 := ⟨k' - 1, by omega⟩
    have : i = cs.length := by omega
    subst this
    rw [List.take_length] at ht
    rw [← h2 ht]
    unfold bound_Needed_l5 st5
    rw [loopK_succ]
    simp only [Int.lt_irrefl, decide_false, tst_false]
  | m + 1, i, k', hi, hk, ht => by
    obtain ⟨k', rfl⟩ : ∃ q, k' = q + 1 := ⟨k' - 1, by omega⟩
    have hlt : i < cs.length := by omega
    have hc : cs[i]? = some cs[i] := List.getElem?_eq_getElem _
    have htk : cs.take (i + 1) = cs.take i ++ [cs[i]] := by rw [List.take_add_one, hc]; rfl
    generalize cs[i] = c at hc htk
    have g1 : decide ((0 : Int) ≤ (i : Int)) = true := by simp
    have e0 : (0 : Int) + (i : Int) = (i : Int) := by omega
    cases hk2 : inMap mp c with
    | false =>
      rw [← h1 i c hc hk2 ht]
      unfold bound_Needed_l5 st5
      rw [loopK_succ]
      generalize loopK _ k' = rec
      unfold inMap at hk2
      simp only [Int.ofNat_lt, hlt, decide_true, tst_true, g1, Bool.and_self, e0, ix_nat, hc, obind_some, ix_one, tst_not, hk2, tst_false]
    | true =>
      have ih := nd_l5 (k := k) hl h1 h2 m (i + 1) k' (by omega) (by omega) (by rw [htk, List.filter_append, ht]; simp [hk2])
      rw [← ih]
      unfold bound_Needed_l5 st5
      rw [loopK_succ]
      generalize loopK _ k' = rec
      unfold inMap at hk2
      simp only [Int.ofNat_lt, hlt, decide_true, tst_true, g1, Bool.and_self, e0, ix_nat, hc, obind_some, ix_one, tst_not, hk2, w64_succ (show i < 9223372036854775807 by omega)]

/-! ### Routes -/
theorem Route_val {k : Nat} (hk : Fuel k) (hf : NetFit n) (hp : In64 f.2.2.2.1) (hr : Len r) : ∃ (a b : Int) (l : List Int) (e : Int), bound_Route k n s f r = some (a, b, l, e, ()) ∧ (e = 0 → bound_way_check k (mkWay n s f r 0) = some 0 ∧ AllOk n s f r ∧ boundOf n s f r 0 = (a, b, l, true, ())) := by
  obtain ⟨e, e1, e2, e3⟩ := check_eq hk hf (s := s) (f := f) hp hr 0
  unfold bound_Route
  have e1' : bound_way_check k (n.1, n.2.1, n.2.2.1, n.2.2.2.1, n.2.2.2.2.1, n.2.2.2.2.2.1, s.1, s.2.1, s.2.2.1, f.1, f.2.1, f.2.2.1, f.2.2.2.1, f.2.2.2.2.1, f.2.2.2.2.2.1, r, 0, ()) = some e := e1
  rw [e1']
  simp only [obind_some, tst_not, tst_beq]
  by_cases h : e = 0
  · have ha := e3 h
    simp only [if_pos h]
    have hb := bound_eq hk hf ha (more := 0) ⟨by omega, by omega⟩
    have hb' : bound_way_bound k (n.1, n.2.1, n.2.2.1, n.2.2.2.1, n.2.2.2.2.1, n.2.2.2.2.2.1, s.1, s.2.1, s.2.2.1, f.1, f.2.1, f.2.2.1, f.2.2.2.1, f.2.2.2.2.1, f.2.2.2.2.2.1, r, 0, ()) = some (boundOf n s f r 0) := hb
    rw [hb']
    simp only [obind_some]
    subst h
    generalize boundOf n s f r 0 = bb
    obtain ⟨b1, b2, b3, b4, u⟩ := bb
    cases b4 with
    | true => exact ⟨b1, b2, b3, 0, rfl, fun _ => ⟨e1, ha, rfl⟩⟩
    | false => exact ⟨0, 0, [], 15, rfl, fun q => by cases q⟩
  · simp only [if_neg h]
    exact ⟨0, 0, [], e, rfl, fun q => absurd q h⟩
theorem Route_of {k : Nat} (hk : Fuel k) (hf : NetFit n) (hc : bound_way_check k (mkWay n s f r 0) = some 0) (ha : AllOk n s f r) {a b : Int} {l : List Int} (hb : boundOf n s f r 0 = (a, b, l, true, ())) : bound_Route k n s f r = some (a, b, l, 0, ()) := by
  unfold bound_Route
  have e1' : bound_way_check k (n.1, n.2.1, n.2.2.1, n.2.2.2.1, n.2.2.2.2.1, n.2.2.2.2.2.1, s.1, s.2.1, s.2.2.1, f.1, f.2.1, f.2.2.1, f.2.2.2.1, f.2.2.2.2.1, f.2.2.2.2.2.1, r, 0, ()) = some 0 := hc
  rw [e1']
  have hb' : bound_way_bound k (n.1, n.2.1, n.2.2.1, n.2.2.2.1, n.2.2.2.2.1, n.2.2.2.2.2.1, s.1, s.2.1, s.2.2.1, f.1, f.2.1, f.2.2.1, f.2.2.2.1, f.2.2.2.2.1, f.2.2.2.2.2.1, r, 0, ()) = some (boundOf n s f r 0) := bound_eq hk hf ha (more := 0) ⟨by omega, by omega⟩
  rw [obind_some, hb', hb]
  rfl
theorem CBefore.trans {a b c : Cell} (h : CBefore a b) (k : CBefore b c) : CBefore a c := by
  unfold CBefore at *
  omega
theorem sch_pair {s : Schedule} (h : SchOk s) : s.2.2.1.Pairwise CBefore := by
  have key : ∀ (d i : Nat) (a b : Cell), s.2.2.1[i]? = some a → s.2.2.1[i + d + 1]? = some b → CBefore a b := by
    intro d
    induction d with
    | zero =>
      intro i a b h1 h2
      exact (h.cell (i + 1) b h2).2 (by omega) a (by simpa using h1)
    | succ d ih =>
      intro i a b h1 h2
      have hlt : i + (d + 1) < s.2.2.1.length := by
        have := (List.getElem?_eq_some_iff.1 h2).1
        omega
      have hm : s.2.2.1[i + d + 1]? = some s.2.2.1[i + (d + 1)] := List.getElem?_eq_getElem hlt
      exact (ih i a _ h1 hm).trans ((h.cell (i + (d + 1) + 1) b h2).2 (by omega) _ hm)
  rw [List.pairwise_iff_getElem]
  intro i j hi hj hij
  exact key (j - i - 1) i _ _ (List.getElem?_eq_getElem hi) (by rw [show i + (j - i - 1) + 1 = j by omega]; exact List.getElem?_eq_getElem hj)
theorem sch_only {s : Schedule} (h : SchOk s) (p : Cell → Bool) : SchOk (only s p) := by
  refine ⟨h.len, h.offs, Nat.le_trans (List.length_filter_le ..) h.few, fun i c hc => ⟨?_, fun hi q hq => ?_⟩⟩
  · have hm : c ∈ s.2.2.1 := (List.mem_filter.1 (List.mem_of_getElem? hc)).1
    obtain ⟨j, hj⟩ := List.mem_iff_getElem?.1 hm
    have := (h.cell j c hj).1
    exact ⟨this.slot, this.off, this.a, this.b, this.flow⟩
  · have hp : (s.2.2.1.filter p).Pairwise CBefore := (sch_pair h).filter p
    obtain ⟨h1, e1⟩ := List.getElem?_eq_some_iff.1 hc
    obtain ⟨h2, e2⟩ := List.getElem?_eq_some_iff.1 hq
    have := (List.pairwise_iff_getElem.1 hp) (i - 1) i h2 h1 (by omega)
    have e1 : (s.2.2.1.filter p)[i] = c := e1
    have e2 : (s.2.2.1.filter p)[i - 1] = q := e2
    rw [e1, e2] at this
    exact this
theorem check_only {k : Nat} (hk : Fuel k) (p : Cell → Bool) (hs : SchOk s) (h : bound_way_check k (mkWay n s f r 0) = some 0) : bound_way_check k (mkWay n (only s p) f r 0) = some 0 := by
  have key : ∀ s' : Schedule, bound_way_check k (mkWay n s' f r 0) = obind (network_Check k n) fun v0 => tst (!(v0 == 0)) (some 1) (obind (schedule_Print k s') fun v1 => tst (!(v1.2.1 == 0)) (some 1) (obind (flow_Check k n.1 [f]) fun v2 => tst (!(v2.2.1 == 0)) (some 1) (tst (f.2.2.2.1 != 0) (tst (!((Int.tmod s'.1 f.2.2.2.1) == 0)) (some 11) (obind (route_Check k n f.2.1 f.2.2.1 r) fun v3 => some v3)) none))) := fun s' => rfl
  rw [key] at h ⊢
  obtain ⟨t1, e1, p1, p2⟩ := Print_eq hk s
  obtain ⟨t2, e2, q1, q2⟩ := Print_eq hk (only s p)
  have z1 : e1 = 0 := p2.2 hs
  have z2 : e2 = 0 := q2.2 (sch_only hs p)
  subst z1 z2
  rw [p1] at h
  rw [q1]
  exact h
theorem ok_only (p : Cell → Bool) (ha : AllOk n s f r) : AllOk n (only s p) f r := ⟨ha.net, sch_only ha.sch p, ha.flow, ha.div, ha.route⟩
/-- A route has a bound. -/
def HasB (k : Nat) (n : Network) (s : Schedule) (f : Flow) (r : List Int) : Prop := bound_way_check k (mkWay n s f r 0) = some 0 ∧ AllOk n s f r ∧ ∃ (a b : Int) (l : List Int), boundOf n s f r 0 = (a, b, l, true, ())
theorem nd_l0 {k : Nat} (hk : Fuel k) (hf : NetFit n) (hp : In64 f.2.2.2.1) {l : List (List Int)} (hl : l.length ≤ 1000) (hr : ∀ r ∈ l, Len r) {q1 : List Cell} {q2 r1 r2 : Int} {κ9 : _} :
    ∀ (m i k' : Nat) (mp : List (Cell × Bool × Unit)), i + m = l.length → m < k' →
      (∃ e : Int, e ≠ 0 ∧ bound_Needed_l0 k κ9 k' (n, s, f, q1, q2, l, (l.length : Int), (i : Int), (0, r1, r2), [mp], ()) = some ([], e, ())) ∨
      ((∀ r ∈ l.drop i, HasB k n s f r) ∧ bound_Needed_l0 k κ9 k' (n, s, f, q1, q2, l, (l.length : Int), (i : Int), (0, r1, r2), [mp], ()) = κ9 (n, s, f, q1, q2, l, (l.length : Int), (l.length : Int), (0, r1, r2), [put mp (usedAll n s f (l.drop i))], ()))
  | 0, i, k', mp, hi, hk' => by
    obtain ⟨k', rfl⟩ : ∃ q, k' = q + 1 := ⟨k' - 1, by omega⟩
    have : i = l.length := by omega
    subst this
    refine .inr ⟨fun r hr => by simp at hr, ?_⟩
    unfold bound_Needed_l0
    rw [loopK_succ]
    rw [tst_neg (by simp only; omega), List.drop_length]
    rfl
  | m + 1, i, k', mp, hi, hk' => by
    obtain ⟨k', rfl⟩ : ∃ q, k' = q + 1 := ⟨k' - 1, by omega⟩
    have hlt : i < l.length := by omega
    have hx : l[i]? = some l[i] := List.getElem?_eq_getElem _
    have hd : l.drop i = l[i] :: l.drop (i + 1) := (List.getElem_cons_drop hlt).symm
    have hmem : l[i] ∈ l := List.getElem_mem hlt
    generalize l[i] = r at hx hd hmem
    obtain ⟨a, b, sl, e, h1, h2⟩ := Route_val (s := s) hk hf hp (hr r hmem)
    by_cases h : e = 0
    · obtain ⟨g1, g2, g3⟩ := h2 h
      subst h
      have hper := g2.flow.period
      have hph := g2.flow.phase
      have hsl := g2.sch.len
      have key : bound_Needed_l0 k κ9 (k' + 1) (n, s, f, q1, q2, l, (l.length : Int), (i : Int), (0, r1, r2), [mp], ()) = bound_Needed_l0 k κ9 k' (n, s, f, q1, q2, l, (l.length : Int), ((i + 1 : Nat) : Int), (0, r1, r2), [put mp ((rels s.1 f.2.2.2.1 512 f.2.2.2.2.1).flatMap (usedRel n s f r))], ()) := by
        unfold bound_Needed_l0
        rw [loopK_succ]
        generalize loopK _ k' = rec
        rw [tst_pos (by simp only; omega)]
        simp only [ix_nat, hx, obind_some, h1, tst_not, beq_self_eq_true, tst_true]
        refine Eq.trans (nd_l1 hk hf g2 (K := fun mp => rec (n, s, f, q1, q2, l, (l.length : Int), w64 ((i : Int) + 1), (0, r1, r2), [mp], ())) (fun rel mp => rfl) 512 k f.2.2.2.2.1 mp (by omega) (by unfold Fuel at hk; omega) (by omega) (by omega)) ?_
        simp only [w64_succ (show i < 9223372036854775807 by omega)]
      rw [hd]
      rcases nd_l0 hk hf hp hl hr m (i + 1) k' (put mp ((rels s.1 f.2.2.2.1 512 f.2.2.2.2.1).flatMap (usedRel n s f r))) (by omega) (by omega) with ⟨e, e1, e2⟩ | ⟨e1, e2⟩
      · exact .inl ⟨e, e1, key.trans e2⟩
      · refine .inr ⟨fun x hx => ?_, key.trans (e2.trans ?_)⟩
        · rcases List.mem_cons.1 hx with rfl | hx
          · exact ⟨g1, g2, a, b, sl, g3⟩
          · exact e1 x hx
        · rw [← put_append]
          rfl
    · refine .inl ⟨e, h, ?_⟩
      unfold bound_Needed_l0
      rw [loopK_succ]
      generalize loopK _ k' = rec
      rw [tst_pos (by simp only; omega)]
      simp only [ix_nat, hx, obind_some, h1, tst_not, tst_beq, if_neg h]
theorem nd_end {cs ys : List Cell} {i : Nat} (hl : ys.length = cs.length) (hi : i ≤ cs.length) (z : Cell) :
    (obind (std.mslc (cs.length : Int) (some (i : Int)) none) fun v8 =>
    tst ((decide (0 ≤ ((0 : Int) + v8.1))) && (decide (((0 + v8.1) + (v8.2 - v8.1)) ≤ (ln ys))))
      (obind (std.mslc (cs.length : Int) none (some (i : Int))) fun v9 =>
      obind (part (clrI ys (0 + v8.1) (v8.2 - v8.1) z) (0 + v9.1) (v9.2 - v9.1)) fun v10 =>
      some (v10, (0 : Int), ()))
      none) = some (ys.take i, 0, ()) := by
  have m1 : std.mslc (cs.length : Int) (some (i : Int)) none = some ((i : Int), (cs.length : Int)) := by
    show (if 0 ≤ (i : Int) ∧ (i : Int) ≤ (cs.length : Int) ∧ (cs.length : Int) ≤ (cs.length : Int) then some ((i : Int), (cs.length : Int)) else none) = _
    rw [if_pos (by omega)]
  have m2 : std.mslc (cs.length : Int) none (some (i : Int)) = some ((0 : Int), (i : Int)) := by
    show (if 0 ≤ (0 : Int) ∧ (0 : Int) ≤ (i : Int) ∧ (i : Int) ≤ (cs.length : Int) then some ((0 : Int), (i : Int)) else none) = _
    rw [if_pos (by omega)]
  have g : ((decide (0 ≤ ((0 : Int) + (i : Int)))) && (decide (((0 + (i : Int)) + ((cs.length : Int) - (i : Int))) ≤ (ln ys)))) = true := by
    simp [ln, hl]; omega
  rw [m1, obind_some]
  simp only [g, tst_true, m2, obind_some]
  have e1 : (0 : Int) + (i : Int) = (i : Int) := by omega
  have e2 : ((i : Int) - 0) = (i : Int) := by omega
  have e3 : (0 : Int) + 0 = 0 := rfl
  rw [e1, e2, e3, ← hl]
  rw [part_take (by rw [clr_len (by omega)]; omega), obind_some, clr_take (by omega)]
/-- The cells that are needed. -/
def needP (n : Network) (s : Schedule) (f : Flow) (l : List (List Int)) (c : Cell) : Bool := decide (c ∈ usedAll n s f l)
theorem inMap_eq (n : Network) (s : Schedule) (f : Flow) (l : List (List Int)) : inMap (put [] (usedAll n s f l)) = needP n s f l := by
  funext c
  unfold inMap needP
  rw [get_put]
  have : mGet ([] : List (Cell × Bool × Unit)) c false = false := rfl
  rw [this, Bool.or_false]
theorem Needed_val {k : Nat} (hk : Fuel k) (hf : NetFit n) (hp : In64 f.2.2.2.1) {l : List (List Int)} (hl : l.length ≤ 1000) (hr : ∀ r ∈ l, Len r) (hc : s.2.2.1.length ≤ 1000) :
    (∃ e : Int, e ≠ 0 ∧ bound_Needed k n s f l = some ([], e, ())) ∨
    (l ≠ [] ∧ (∀ r ∈ l, HasB k n s f r) ∧ bound_Needed k n s f l = some (s.2.2.1.filter (needP n s f l), 0, ())) := by
  unfold bound_Needed
  cases l with
  | nil => exact .inl ⟨14, by omega, rfl⟩
  | cons r0 l0 =>
    rw [tst_f (show (ln (r0 :: l0) == 0) = false by simp [ln]; omega)]
    generalize hll : r0 :: l0 = l at *
    have hne : l ≠ [] := by rw [← hll]; simp
    rcases nd_l0 (s := s) (q1 := []) (q2 := 0) (r1 := 0) (r2 := 0) (κ9 := _) hk hf hp hl hr l.length 0 k [] (by omega) (by unfold Fuel at hk; omega) with ⟨e, e1, e2⟩ | ⟨e1, e2⟩
    · exact .inl ⟨e, e1, e2⟩
    · refine .inr ⟨hne, by simpa using e1, ?_⟩
      refine Eq.trans e2 ?_
      have hfit : fit 40 s.2.2.1 [] = true := by
        show decide ((s.2.2.1.length + 0) * 40 ≤ 140737488355328) = true
        simp; omega
      simp only [hfit, tst_true, List.drop_zero]
      generalize hcs : s.2.2.1 = cs at hc hfit
      generalize hmp : put [] (usedAll n s f l) = mp
      rw [← inMap_eq, hmp]
      refine nd_l5 hc (mp := mp) (r1 := 0) (r2 := 0) (fun i c hci hk2 ht => ?_) (fun hall => ?_) cs.length 0 k (by omega) (by unfold Fuel at hk; omega) (by simp)
      · have hi : i < cs.length := (List.getElem?_eq_some_iff.1 hci).1
        unfold st5
        have z : ((i : Int) == -1) = false := by
          rw [beq_eq_false_iff_ne]; omega
        simp only [z, tst_false, w64_succ (show i < 9223372036854775807 by omega)]
        have htk : cs.take (i + 1) = cs.take i ++ [c] := by rw [List.take_add_one, hci]; rfl
        obtain ⟨ys, i', p1, p2, p3, p4⟩ := nd_l6 (k := k) hc (mp := mp) (a1 := 0) (a2 := (cs.length : Int)) (r1 := 0) (r2 := 0) (κ0 := fun t25 =>
          obind (std.mslc t25.2.1 (some t25.2.2.1) none) fun v29 =>
          tst ((decide (0 ≤ (t25.1 + v29.1))) && (decide (((t25.1 + v29.1) + (v29.2 - v29.1)) ≤ (ln t25.2.2.2.2.2.2.2.1))))
            (obind (std.mslc t25.2.1 none (some t25.2.2.1)) fun v30 =>
            obind (part (clrI t25.2.2.2.2.2.2.2.1 (t25.1 + v29.1) (v29.2 - v29.1) (0, 0, 0, 0, 0, ())) (t25.1 + v30.1) (v30.2 - v30.1)) fun v31 =>
            some (v31, 0, ()))
            none) (cs.length - (i + 1)) (i + 1) i k cs (by omega) (by unfold Fuel at hk; omega) (by omega) rfl (by rw [htk, List.filter_append, ht]; simp [hk2]) rfl
        refine p1.trans ?_
        refine (nd_end p2 p3 _).trans ?_
        rw [p4]
      · unfold st5
        simp only
        rw [part_take (Nat.le_refl _), obind_some, List.take_length, hall]
theorem boundS_first {S : Int → List Int × Bool} {L per : Int} {m : Nat} {rel b a : Int} {sl : List Int} (h : (boundS S L per (m + 1) rel b a sl).2.2.2.1 = true) (hl : rel < L) : (S rel).2 = true := by
  unfold boundS at h
  rw [if_pos hl] at h
  cases e : (S rel).2 with
  | true => rfl
  | false => rw [e] at h; cases h
theorem used_ne {k : Nat} (hk : Fuel k) (hf : NetFit n) (h : HasB k n s f r) : ∃ rel ∈ rels s.1 f.2.2.2.1 512 f.2.2.2.2.1, usedRel n s f r rel ≠ [] := by
  obtain ⟨_, ha, a, b, sl, hb⟩ := h
  have hper := ha.flow.period
  have hph := ha.flow.phase
  have hl := ha.sch.len
  have hlt : f.2.2.2.2.1 < s.1 := by
    have hd : f.2.2.2.1 ∣ s.1 := Int.dvd_of_tmod_eq_zero ha.div
    have := Int.le_of_dvd (by omega) hd
    omega
  refine ⟨f.2.2.2.2.1, ?_, ?_⟩
  · show f.2.2.2.2.1 ∈ (if f.2.2.2.2.1 < s.1 then _ else _)
    rw [if_pos hlt]
    exact List.mem_cons_self ..
  · have h2 : (slotsS n s f r 0 f.2.2.2.2.1).2 = true := by
      refine boundS_first (m := 511) (L := s.1) (per := f.2.2.2.1) (b := 0) (a := 0) (sl := []) ?_ hlt
      have : boundS (slotsS n s f r 0) s.1 f.2.2.2.1 512 f.2.2.2.2.1 0 0 [] = (a, b, sl, true, ()) := hb
      rw [this]
    have h3 := ((slotsS_len hk hf ha (more := 0) ⟨by omega, by omega⟩ f.2.2.2.2.1).2.1 h2).1
    exact usedR_ne _ _ _ h3
theorem index_of {k : Nat} (hk : Fuel k) {xs : List Cell} (hl : xs.length ≤ 1000) {c : Cell} (hc : c ∈ xs) : ∃ j : Nat, slices_Index_Lapi_Cell_api_Cell k xs c = some (j : Int) := by
  unfold slices_Index_Lapi_Cell_api_Cell slices_Index_Lapi_Cell_api_Cell_l0
  obtain ⟨i0, hi0, e0⟩ := List.mem_iff_getElem.1 hc
  classical
  obtain ⟨h1, h2⟩ := loop_find (st := fun i => (xs, c, ln xs, (i : Int), ())) (n := xs.length) (P := fun i => xs[i]? = some c) (r := fun i => some (i : Int)) (fin := some (-1)) (k := k) (F := fun rec0 (t1 : (List Cell) × Cell × Int × Int × Unit) =>
    tst (decide (t1.2.2.2.1 < t1.2.2.1))
      (obind (ix t1.1 t1.2.2.2.1) fun v2 =>
      tst ((t1.2.1.1 == v2.1) && ((t1.2.1.2.1 == v2.2.1) && ((t1.2.1.2.2.1 == v2.2.2.1) && ((t1.2.1.2.2.2.1 == v2.2.2.2.1) && ((t1.2.1.2.2.2.2.1 == v2.2.2.2.2.1) && true)))))
        (some t1.2.2.2.1)
        (rec0 (t1.1, t1.2.1, t1.2.2.1, w64 (t1.2.2.2.1 + 1), ())))
      (some (-1))) (fun rec i hi => by
      have hx : xs[i]? = some xs[i] := List.getElem?_eq_getElem hi
      generalize xs[i] = d at hx
      have hcd : ((c.1 == d.1) && ((c.2.1 == d.2.1) && ((c.2.2.1 == d.2.2.1) && ((c.2.2.2.1 == d.2.2.2.1) && ((c.2.2.2.2.1 == d.2.2.2.2.1) && true))))) = decide (d = c) := by
        rw [Bool.eq_iff_iff]
        simp [Prod.ext_iff]
        constructor
        · rintro ⟨q1, q2, q3, q4, q5⟩; exact ⟨q1.symm, q2.symm, q3.symm, q4.symm, q5.symm⟩
        · rintro ⟨q1, q2, q3, q4, q5⟩; exact ⟨q1.symm, q2.symm, q3.symm, q4.symm, q5.symm⟩
      simp only [ln, Int.ofNat_lt, hi, decide_true, tst_true, ix_nat, hx, obind_some]
      rw [hcd, tst_dec, w64_succ (show i < 9223372036854775807 by omega)]
      by_cases h : d = c
      · rw [if_pos h, if_pos (by rw [h])]
      · rw [if_neg h, if_neg (fun q => h (Option.some.inj q))]) (fun rec => by simp only [ln, Int.lt_irrefl, decide_false, tst_false]) (by unfold Fuel at hk; omega)
  obtain ⟨j, hj, hp, hb⟩ := first_of (P := fun i => xs[i]? = some c) ⟨i0, hi0, by rw [List.getElem?_eq_getElem hi0, e0]⟩
  exact ⟨j, h2 j hj hp hb⟩
theorem contains_of {k : Nat} (hk : Fuel k) {xs : List Cell} (hl : xs.length ≤ 1000) {c : Cell} (hc : c ∈ xs) : slices_Contains_Lapi_Cell_api_Cell k xs c = some true := by
  obtain ⟨j, hj⟩ := index_of hk hl hc
  unfold slices_Contains_Lapi_Cell_api_Cell
  rw [hj, obind_some]
  have : decide ((0 : Int) ≤ (j : Int)) = true := by simp
  rw [this]
/-- BoundNeeds answers 'true'. -/
theorem BoundNeeds_true (hf : NetFit n) (hp : In64 f.2.2.2.1) {l : List (List Int)} (hl : Len l) (hr : ∀ r ∈ l, Len r) : law37_BoundNeeds K n s f l = some true := by
  unfold law37_BoundNeeds
  rw [awake_K, obind_some]
  obtain ⟨b, b1, b2⟩ := Few37l hK hf s hl
  simp only [tst_not, tst_true]
  rw [b1, obind_some]
  cases b with
  | false => rfl
  | true =>
    obtain ⟨c1, c2, c3⟩ := b2 rfl
    rw [tst_true]
    rcases Needed_val (s := s) hK hf hp (show l.length ≤ 1000 by omega) hr (show s.2.2.1.length ≤ 1000 by omega) with ⟨e, e1, e2⟩ | ⟨e1, e2, e3⟩
    · rw [e2, obind_some]
      simp only [tst_beq, if_neg e1]
      rfl
    · rw [e3, obind_some]
      simp only [beq_self_eq_true, tst_true]
      have hneed : s.2.2.1.filter (needP n s f l) ≠ [] := by
        obtain ⟨r, hr⟩ := List.exists_mem_of_ne_nil l e1
        obtain ⟨rel, q1, q2⟩ := used_ne hK hf (e2 r hr)
        obtain ⟨c, hc⟩ := List.exists_mem_of_ne_nil _ q2
        have hcu : c ∈ usedAll n s f l := List.mem_flatMap.2 ⟨r, hr, List.mem_flatMap.2 ⟨rel, q1, hc⟩⟩
        have hcn : c ∈ s.2.2.1.filter (needP n s f l) := List.mem_filter.2 ⟨(usedAll_mem hcu).1, by unfold needP; exact decide_eq_true hcu⟩
        intro e
        rw [e] at hcn
        cases hcn
      have honly : ∀ r ∈ l, boundOf n (only s (needP n s f l)) f r 0 = boundOf n s f r 0 := fun r hr =>
        bound_only fun rel hrel c hc => by
          unfold needP
          exact decide_eq_true (List.mem_flatMap.2 ⟨r, hr, List.mem_flatMap.2 ⟨rel, hrel, hc⟩⟩)
      have hroute : ∀ r ∈ l, ∃ (a b : Int) (sl : List Int), bound_Route K n s f r = some (a, b, sl, 0, ()) ∧ bound_Route K n (only s (needP n s f l)) f r = some (a, b, sl, 0, ()) ∧ Len sl := fun r hr => by
        obtain ⟨g1, g2, a, b, sl, g3⟩ := e2 r hr
        refine ⟨a, b, sl, Route_of hK hf g1 g2 g3, Route_of hK hf (check_only hK _ g2.sch g1) (ok_only _ g2) ((honly r hr).trans g3), ?_⟩
        have := boundOf_len hK hf g2 (more := 0) ⟨by omega, by omega⟩
        rw [g3] at this
        have this : sl.length ≤ 810 := this
        unfold Len; omega
      have hmem : ∀ c ∈ s.2.2.1.filter (needP n s f l), c.2.2.2.2.1 = f.1 ∧ c ∈ s.2.2.1 := fun c hc => by
        obtain ⟨m1, m2⟩ := List.mem_filter.1 hc
        have hu : c ∈ usedAll n s f l := by unfold needP at m2; exact of_decide_eq_true m2
        exact ⟨(usedAll_mem hu).2, m1⟩
      have hlen : (s.2.2.1.filter (needP n s f l)).length ≤ 24 := Nat.le_trans (List.length_filter_le ..) c1
      unfold only at hroute
      generalize hnd : s.2.2.1.filter (needP n s f l) = need at hneed hroute hmem hlen
      unfold law37_BoundNeeds_l0
      refine loop_go (st := fun i => (n, s, f, need, l, ln l, (i : Int), s.1, s.2.1, need, [], ())) (n := l.length) (fun rec i hi => ?_) (fun rec => ?_) (by unfold K; omega)
      · have hx : l[i]? = some l[i] := List.getElem?_eq_getElem hi
        have hm : l[i] ∈ l := List.getElem_mem hi
        generalize l[i] = r at hx hm
        obtain ⟨a, b, sl, r1, r2, r3⟩ := hroute r hm
        simp only [ln, Int.ofNat_lt, hi, decide_true, tst_true, ix_nat, hx, obind_some, r1, r2, beq_self_eq_true, tst_not, equal_same hK r3, w64_succ (show i < 9223372036854775807 by omega)]
      · simp only [ln, Int.lt_irrefl, decide_false, tst_false]
        have hpos : (0 : Int) < (need.length : Int) := by
          have := List.length_pos_iff.2 hneed
          omega
        refine Eq.trans (tst_t (decide_eq_true hpos)) ?_
        unfold law37_BoundNeeds_l1
        refine loop_go (st := fun i => (need, (f, s, ()), (need.length : Int), (i : Int), ())) (n := need.length) (fun rec i hi => ?_) (fun rec => ?_) (by unfold K; omega)
        · have hx : need[i]? = some need[i] := List.getElem?_eq_getElem hi
          have hm : need[i] ∈ need := List.getElem_mem hi
          generalize need[i] = c at hx hm
          obtain ⟨m1, m2⟩ := hmem c hm
          simp only [Int.ofNat_lt, hi, decide_true, tst_true, ix_nat, hx, obind_some, m1, beq_self_eq_true, tst_not, contains_of hK (show s.2.2.1.length ≤ 1000 by omega) m2, w64_succ (show i < 9223372036854775807 by omega)]
        · simp only [Int.lt_irrefl, decide_false, tst_false]
end Go.Evl.Sh
