/-
  The bound of a route: what both packages answer; BoundReleases.
  Conditions: none.
-/
import Derived.Test.YtbcihiehcekheaaDoorLaw12
namespace Go.Evl.Sh
open Go Go.Evl
set_option linter.unusedVariables false
set_option linter.unusedSimpArgs false
variable {n : Network} {s : Schedule} {f : Flow} {r : List Int} {more : Int}

/-- The bound of a route: the latency, the first release that reaches it, the slots that count for it. -/
def boundS (S : Int → List Int × Bool) (L per : Int) : Nat → Int → Int → Int → List Int → Int × Int × (List Int) × Bool × Unit
  | 0, rel, b, a, sl => (b, a, sl, true, ())
  | m + 1, rel, b, a, sl => if rel < L then
      (bif (S rel).2 then
        (if b < w64 (w64 (lastI (S rel).1 - rel) + 1) then boundS S L per m (rel + per) (w64 (w64 (lastI (S rel).1 - rel) + 1)) rel ((S rel).1.map fun v => w64 (v - rel))
        else boundS S L per m (rel + per) b a sl)
      else (0, 0, [], false, ()))
    else (b, a, sl, true, ())
theorem bound_loop {k : Nat} (hk : Fuel k) (hf : NetFit n) (ha : AllOk n s f r) (hm : 0 ≤ more ∧ more ≤ 80) :
    ∀ (m k' : Nat) (rel b a : Int) (sl : List Int), s.1 ≤ rel + m → m < k' → 0 ≤ rel → rel ≤ 2000 →
      bound_way_bound_l0 k k' (mkWay n s f r more, b, a, sl, rel, ()) = some (boundS (slotsS n s f r more) s.1 f.2.2.2.1 m rel b a sl)
  | 0, k', rel, b, a, sl, hr, hk', h0, h1 => by
    obtain ⟨k', rfl⟩ : ∃ q, k' = q + 1 := ⟨k' - 1, by omega⟩
    unfold bound_way_bound_l0
    rw [loopK_succ]
    rw [tst_neg (by simp only [mk6]; omega)]
    rfl
  | m + 1, k', rel, b, a, sl, hr, hk', h0, h1 => by
    obtain ⟨k', rfl⟩ : ∃ q, k' = q + 1 := ⟨k' - 1, by omega⟩
    have hp := ha.flow.period
    have hl := ha.sch.len
    unfold boundS
    by_cases h : rel < s.1
    · rw [if_pos h]
      have ih := fun b a sl => bound_loop hk hf ha hm m k' (rel + f.2.2.2.1) b a sl (by omega) (by omega) (by omega) (by omega)
      unfold bound_way_bound_l0 at ih ⊢
      rw [loopK_succ]
      rw [tst_pos (by simp only [mk6]; exact h)]
      simp only [release_eq hk hf ha hm h0 (show rel ≤ 2000000 by omega), obind_some, mk12, w64_of (show In64 (rel + f.2.2.2.1) from ⟨by omega, by omega⟩), ih]
      cases e : (slotsS n s f r more rel).2 with
      | false =>
        simp only [relP, e, cond_false, tst_not, tst_false]
      | true =>
        simp only [relP, e, cond_true, tst_not, tst_true]
        by_cases g : b < w64 (w64 (lastI (slotsS n s f r more rel).1 - rel) + 1)
        · rw [tst_t (decide_eq_true g), if_pos g]
        · rw [tst_f (decide_eq_false g), if_neg g]
    · rw [if_neg h]
      unfold bound_way_bound_l0
      rw [loopK_succ]
      rw [tst_neg (by simp only [mk6]; exact h)]
theorem most_loop {k : Nat} (hk : Fuel k) (hf : NetFit n) (ha : AllOk n s f r) (hm : 0 ≤ more ∧ more ≤ 80) :
    ∀ (m k' : Nat) (rel b a : Int) (sl : List Int), s.1 ≤ rel + m → m < k' → 0 ≤ rel → rel ≤ 2000 →
      ref37_Most_l0 k k' (r, more, n, s, f, b, a, sl, rel, ()) = some (boundS (slotsS n s f r more) s.1 f.2.2.2.1 m rel b a sl)
  | 0, k', rel, b, a, sl, hr, hk', h0, h1 => by
    obtain ⟨k', rfl⟩ : ∃ q, k' = q + 1 := ⟨k' - 1, by omega⟩
    unfold ref37_Most_l0
    rw [loopK_succ]
    rw [tst_neg (by simp only; omega)]
    rfl
  | m + 1, k', rel, b, a, sl, hr, hk', h0, h1 => by
    obtain ⟨k', rfl⟩ : ∃ q, k' = q + 1 := ⟨k' - 1, by omega⟩
    have hp := ha.flow.period
    have hl := ha.sch.len
    unfold boundS
    by_cases h : rel < s.1
    · rw [if_pos h]
      have ih := fun b a sl => most_loop hk hf ha hm m k' (rel + f.2.2.2.1) b a sl (by omega) (by omega) (by omega) (by omega)
      unfold ref37_Most_l0 at ih ⊢
      rw [loopK_succ]
      rw [tst_pos (by simp only; exact h)]
      obtain ⟨g1, g2, g3⟩ := slotsS_len hk hf ha hm rel
      simp only [slots_eq hk hf ha hm h0 (show rel ≤ 2000000 by omega), obind_some, w64_of (show In64 (rel + f.2.2.2.1) from ⟨by omega, by omega⟩), ih]
      cases e : (slotsS n s f r more rel).2 with
      | false =>
        simp only [cond_false, tst_not, tst_false]
      | true =>
        obtain ⟨q1, q2⟩ := g2 e
        simp only [cond_true, tst_not, tst_true, ix_last q1 (show _ ≤ 100000 by omega), obind_some, relative_eq hk (show (slotsS n s f r more rel).1.length ≤ 100000 by omega)]
        by_cases g : b < w64 (w64 (lastI (slotsS n s f r more rel).1 - rel) + 1)
        · rw [tst_t (decide_eq_true g), if_pos g]
        · rw [tst_f (decide_eq_false g), if_neg g]
    · rw [if_neg h]
      unfold ref37_Most_l0
      rw [loopK_succ]
      rw [tst_neg (by simp only; exact h)]
/-- The bound, from the first release on. -/
def boundOf (n : Network) (s : Schedule) (f : Flow) (r : List Int) (more : Int) : Int × Int × (List Int) × Bool × Unit := boundS (slotsS n s f r more) s.1 f.2.2.2.1 512 f.2.2.2.2.1 0 0 []
theorem bound_eq {k : Nat} (hk : Fuel k) (hf : NetFit n) (ha : AllOk n s f r) (hm : 0 ≤ more ∧ more ≤ 80) : bound_way_bound k (mkWay n s f r more) = some (boundOf n s f r more) := by
  have hp := ha.flow.period
  have hq := ha.flow.phase
  have hl := ha.sch.len
  unfold bound_way_bound boundOf
  rw [mk13]
  exact bound_loop hk hf ha hm 512 k _ 0 0 [] (by omega) (by unfold Fuel at hk; omega) (by omega) (by omega)
theorem most_eq {k : Nat} (hk : Fuel k) (hf : NetFit n) (ha : AllOk n s f r) (hm : 0 ≤ more ∧ more ≤ 80) : ref37_Most k n s f r more = some (boundOf n s f r more) := by
  have hp := ha.flow.period
  have hq := ha.flow.phase
  have hl := ha.sch.len
  unfold ref37_Most boundOf
  exact most_loop hk hf ha hm 512 k _ 0 0 [] (by omega) (by unfold Fuel at hk; omega) (by omega) (by omega)
theorem boundS_len {S : Int → List Int × Bool} {L per : Int} (h : ∀ rel, (S rel).1.length ≤ 810) : ∀ (m : Nat) (rel b a : Int) (sl : List Int), sl.length ≤ 810 → (boundS S L per m rel b a sl).2.2.1.length ≤ 810
  | 0, rel, b, a, sl, hs => hs
  | m + 1, rel, b, a, sl, hs => by
    unfold boundS
    by_cases g : rel < L
    · rw [if_pos g]
      cases (S rel).2 with
      | false => simp
      | true =>
        rw [cond_true]
        by_cases g2 : b < w64 (w64 (lastI (S rel).1 - rel) + 1)
        · rw [if_pos g2]; exact boundS_len h m _ _ _ _ (by rw [List.length_map]; exact h rel)
        · rw [if_neg g2]; exact boundS_len h m _ _ _ _ hs
    · rw [if_neg g]; exact hs
theorem boundOf_len {k : Nat} (hk : Fuel k) (hf : NetFit n) (ha : AllOk n s f r) (hm : 0 ≤ more ∧ more ≤ 80) : (boundOf n s f r more).2.2.1.length ≤ 810 :=
  boundS_len (fun rel => (slotsS_len hk hf ha hm rel).1) 512 _ _ _ _ (by simp)
/-- Both packages' Route: the same. -/
theorem Route_eq {k : Nat} (hk : Fuel k) (hf : NetFit n) (hp : In64 f.2.2.2.1) (hr : Len r) : ∃ (a b : Int) (l : List Int) (e : Int), bound_Route k n s f r = some (a, b, l, e, ()) ∧ ref37_Route k n s f r = some (a, b, l, e, ()) ∧ l.length ≤ 810 := by
  obtain ⟨e, e1, e2, e3⟩ := check_eq hk hf (s := s) (f := f) hp hr 0
  unfold bound_Route ref37_Route
  have e1' : bound_way_check k (n.1, n.2.1, n.2.2.1, n.2.2.2.1, n.2.2.2.2.1, n.2.2.2.2.2.1, s.1, s.2.1, s.2.2.1, f.1, f.2.1, f.2.2.1, f.2.2.2.1, f.2.2.2.2.1, f.2.2.2.2.2.1, r, 0, ()) = some e := e1
  rw [e1', e2]
  simp only [obind_some, tst_not, tst_beq]
  by_cases h : e = 0
  · have ha := e3 h
    simp only [if_pos h]
    have hb := bound_eq hk hf ha (more := 0) ⟨by omega, by omega⟩
    have hb' : bound_way_bound k (n.1, n.2.1, n.2.2.1, n.2.2.2.1, n.2.2.2.2.1, n.2.2.2.2.2.1, s.1, s.2.1, s.2.2.1, f.1, f.2.1, f.2.2.1, f.2.2.2.1, f.2.2.2.2.1, f.2.2.2.2.2.1, r, 0, ()) = some (boundOf n s f r 0) := hb
    rw [hb', most_eq hk hf ha (more := 0) ⟨by omega, by omega⟩]
    simp only [obind_some]
    have hl := boundOf_len hk hf ha (more := 0) ⟨by omega, by omega⟩
    cases (boundOf n s f r 0).2.2.2.1 with
    | true => exact ⟨_, _, _, _, rfl, rfl, hl⟩
    | false => exact ⟨_, _, _, _, rfl, rfl, by simp⟩
  · simp only [if_neg h]
    exact ⟨_, _, _, _, rfl, rfl, by simp⟩
/-- Both packages' Release: the same. -/
theorem Release_eq {k : Nat} (hk : Fuel k) (hf : NetFit n) (hp : In64 f.2.2.2.1) (hr : Len r) (rel : Int) : ∃ (a : Int) (l : List Int) (e : Int), bound_Release k n s f r rel = some (a, l, e, ()) ∧ ref37_Release k n s f r rel = some (a, l, e, ()) ∧ l.length ≤ 810 := by
  obtain ⟨e, e1, e2, e3⟩ := check_eq hk hf (s := s) (f := f) hp hr 0
  unfold bound_Release ref37_Release
  have e1' : bound_way_check k (n.1, n.2.1, n.2.2.1, n.2.2.2.1, n.2.2.2.2.1, n.2.2.2.2.2.1, s.1, s.2.1, s.2.2.1, f.1, f.2.1, f.2.2.1, f.2.2.2.1, f.2.2.2.2.1, f.2.2.2.2.2.1, r, 0, ()) = some e := e1
  rw [e1', e2]
  simp only [obind_some, tst_not, tst_beq]
  by_cases h : e = 0
  rotate_left
  · simp only [if_neg h]
    exact ⟨_, _, _, rfl, rfl, by simp⟩
  have ha := e3 h
  have hq := ha.flow.phase
  have hper := ha.flow.period
  simp only [if_pos h]
  have hin : ref37_in k rel f.2.2.2.2.1 1048576 = some (decide (f.2.2.2.2.1 ≤ rel ∧ rel ≤ 1048576)) := by
    unfold ref37_in
    rw [tst_dec]
    split
    · rename_i q; simp [q]
    · rename_i q; simp [q]
  rw [hin]
  simp only [obind_some]
  by_cases h1 : f.2.2.2.2.1 ≤ rel ∧ rel ≤ 1048576
  rotate_left
  · rw [tst_neg h1]
    by_cases h2 : rel < f.2.2.2.2.1
    · rw [tst_pos h2]; exact ⟨_, _, _, rfl, rfl, by simp⟩
    · rw [tst_neg h2, tst_pos (by omega)]; exact ⟨_, _, _, rfl, rfl, by simp⟩
  rw [tst_pos h1, tst_neg (by omega), tst_neg (by omega)]
  have hz : (f.2.2.2.1 != 0) = true := by simp; omega
  rw [hz]
  simp only [tst_true]
  by_cases h3 : Int.tmod (w64 (rel - f.2.2.2.2.1)) f.2.2.2.1 = 0
  rotate_left
  · simp only [if_neg h3]; exact ⟨_, _, _, rfl, rfl, by simp⟩
  simp only [if_pos h3]
  have hb := release_eq hk hf ha (more := 0) ⟨by omega, by omega⟩ (rel := rel) (by omega) (by omega)
  have hb' : bound_way_release k (n.1, n.2.1, n.2.2.1, n.2.2.2.1, n.2.2.2.2.1, n.2.2.2.2.2.1, s.1, s.2.1, s.2.2.1, f.1, f.2.1, f.2.2.1, f.2.2.2.1, f.2.2.2.2.1, f.2.2.2.2.2.1, r, 0, ()) rel = some (relP (slotsS n s f r 0 rel) rel) := hb
  obtain ⟨g1, g2, g3⟩ := slotsS_len hk hf ha (more := 0) ⟨by omega, by omega⟩ rel
  rw [hb', slots_eq hk hf ha (more := 0) ⟨by omega, by omega⟩ (by omega) (by omega)]
  simp only [obind_some]
  cases e : (slotsS n s f r 0 rel).2 with
  | false =>
    simp only [relP, e, cond_false, tst_not, tst_false]
    exact ⟨_, _, _, rfl, rfl, by simp⟩
  | true =>
    obtain ⟨q1, q2⟩ := g2 e
    simp only [relP, e, cond_true, tst_not, tst_true, ix_last q1 (show _ ≤ 100000 by omega), obind_some, relative_eq hk (show (slotsS n s f r 0 rel).1.length ≤ 100000 by omega)]
    exact ⟨_, _, _, rfl, rfl, by rw [List.length_map]; exact g1⟩
/-- The fuel. -/
def K : Nat := 18446744073709551616
theorem hK : Fuel K := by unfold Fuel K; omega
theorem awake_K : law37_awake K = some true := by kernel_rfl
theorem tst_val {β : Type} (b : Bool) (x : Option β) : tst b x x = x := by cases b <;> rfl
/-- BoundReleases answers 'true'. -/
theorem BoundReleases_true (hf : NetFit n) (hp : In64 f.2.2.2.1) (hr : Len r) (rel : Int) : law37_BoundReleases K n s f r rel = some true := by
  unfold law37_BoundReleases
  rw [awake_K, obind_some]
  obtain ⟨b, b1, b2⟩ := Few37 hK hf s r
  simp only [tst_not, tst_true]
  rw [b1, obind_some]
  cases b with
  | false => rfl
  | true =>
    obtain ⟨a, l, e, h1, h2, h3⟩ := Release_eq (s := s) hK hf hp hr rel
    obtain ⟨a', b', l', e', h1', h2', h3'⟩ := Route_eq (s := s) hK hf hp hr
    rw [tst_true, h1, h2, h1', h2']
    have q1 : Len l := by unfold Len; omega
    have q2 : Len l' := by unfold Len; omega
    simp only [obind_some, beq_self_eq_true, tst_true, equal_same hK q1, equal_same hK q2]
end Go.Evl.Sh
