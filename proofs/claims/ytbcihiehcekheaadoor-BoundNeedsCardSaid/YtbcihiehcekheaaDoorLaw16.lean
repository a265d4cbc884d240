/-
  The loops of bound.Needed: the cells that count come into the map.
  Conditions: none.
-/
import Derived.Test.YtbcihiehcekheaaDoorLaw15
namespace Go.Evl.Sh
open Go Go.Evl
set_option linter.unusedVariables false
set_option linter.unusedSimpArgs false
theorem ix_one {α : Type} (x : α) : ix [x] (0 : Int) = some x := rfl
theorem setI_one {α : Type} (x y : α) : setI [x] (0 : Int) y = [y] := rfl
theorem take_in {c : Cell} {cs : List Cell} {L slot : Int} (h : inSlot L slot c = true) (left : Nat) : (((c :: cs).filter (inSlot L slot)).take (left + 1)) = c :: (cs.filter (inSlot L slot)).take left := by
  rw [List.filter_cons, if_pos h, List.take_succ_cons]
theorem take_out {c : Cell} {cs : List Cell} {L slot : Int} (h : ¬ inSlot L slot c = true) (left : Nat) : (((c :: cs).filter (inSlot L slot)).take left) = (cs.filter (inSlot L slot)).take left := by
  rw [List.filter_cons, if_neg h]
theorem nd_l4 {k : Nat} {w : Way} {cs : List Cell} {slot fin : Int} (h0 : w.2.2.2.2.2.2.1 ≠ 0) (hs : In64 (slot + 1)) (hc : cs.length ≤ 1000) {A D E E' : Way} {B : Int} {l : Link} {N : Network} {S : Schedule} {F : Flow} {q1 : List Cell} {q2 rl : Int} {ls : List (List Int)} {ll ri : Int} {J : Int} {W : Way} {r1 r2 : Int} {n1 : Int} {n2 : List (List Int)} {n3 n4 : Int} {n5 : List Link} {n6 : List Int} {s1 s2 : Int} {s3 : List Cell} {f1 f2 f3 f4 f5 f6 : Int} {rr : List Int} {mo : Int} {κ2 : _} :
    ∀ (m j k' left : Nat) (a : Int) (mp : List (Cell × Bool × Unit)), j + m = cs.length → m < k' → left ≤ 1000 →
      bound_Needed_l4 k κ2 k' (w, (left : Int), cs, slot, (E, ()), cs, (cs.length : Int), (j : Int), A, B, l, D, (E', ()), N, S, F, q1, q2, rl, ls, ll, ri, ((J, ()), W, ()), (0, r1, r2), n1, n2, n3, n4, n5, n6, s1, s2, s3, f1, f2, f3, f4, f5, f6, rr, mo, a, fin, [mp], ()) =
      κ2 (w, ((left - min left (cnt (cs.drop j) w.2.2.2.2.2.2.1 slot) : Nat) : Int), cs, slot, (E, ()), cs, (cs.length : Int), (cs.length : Int), A, B, l, D, (E', ()), N, S, F, q1, q2, rl, ls, ll, ri, ((J, ()), W, ()), (0, r1, r2), n1, n2, n3, n4, n5, n6, s1, s2, s3, f1, f2, f3, f4, f5, f6, rr, mo, lastOr a (List.replicate (min left (cnt (cs.drop j) w.2.2.2.2.2.2.1 slot)) slot), fin, [put mp (((cs.drop j).filter (inSlot w.2.2.2.2.2.2.1 slot)).take left)], ())
  | 0, j, k', left, a, mp, hj, hk, hl => by
    obtain ⟨k', rfl⟩ : ∃ q, k' = q + 1 := ⟨k' - 1, by omega⟩
    have : j = cs.length := by omega
    subst this
    unfold bound_Needed_l4
    rw [loopK_succ]
    simp [tst_false, cnt, lastOr_nil, put_nil]
  | m + 1, j, k', left, a, mp, hj, hk, hl => by
    obtain ⟨k', rfl⟩ : ∃ q, k' = q + 1 := ⟨k' - 1, by omega⟩
    have hlt : j < cs.length := by omega
    have hd : cs.drop j = cs[j] :: cs.drop (j + 1) := (List.getElem_cons_drop hlt).symm
    have hx : cs[j]? = some cs[j] := List.getElem?_eq_getElem _
    generalize cs[j] = c at hd hx
    rw [hd, cnt_cons]
    have h0' : (w.2.2.2.2.2.2.1 != 0) = true := by simpa using h0
    by_cases hin : c.1 = Int.tmod slot w.2.2.2.2.2.2.1
    rotate_left
    · have hin' : ¬ inSlot w.2.2.2.2.2.2.1 slot c = true := by unfold inSlot; rw [beq_iff_eq]; exact hin
      rw [if_neg hin', Nat.zero_add, take_out hin']
      refine Eq.trans ?_ (nd_l4 (k := k) (E := E) (W := W) h0 hs hc m (j + 1) k' left a mp (by omega) (by omega) hl)
      unfold bound_Needed_l4
      rw [loopK_succ]
      generalize loopK _ k' = rec
      simp only [Int.ofNat_lt, hlt, decide_true, tst_true, ix_nat, hx, obind_some, h0', tst_not, tst_beq, if_neg hin, w64_succ (show j < 9223372036854775807 by omega)]
    · have hin' : inSlot w.2.2.2.2.2.2.1 slot c = true := by unfold inSlot; rw [beq_iff_eq]; exact hin
      rw [if_pos hin']
      cases left with
      | zero =>
        have ih := nd_l4 (E := E) (κ2 := κ2) (k := k) (A := A) (B := B) (l := l) (D := D) (E' := E') (fin := fin) (N := N) (S := S) (F := F) (q1 := q1) (q2 := q2) (rl := rl) (ls := ls) (ll := ll) (ri := ri) (J := J) (W := W) (r1 := r1) (r2 := r2) (n1 := n1) (n2 := n2) (n3 := n3) (n4 := n4) (n5 := n5) (n6 := n6) (s1 := s1) (s2 := s2) (s3 := s3) (f1 := f1) (f2 := f2) (f3 := f3) (f4 := f4) (f5 := f5) (f6 := f6) (rr := rr) (mo := mo) h0 hs hc m (j + 1) k' 0 a mp (by omega) (by omega) hl
        rw [Nat.zero_min] at ih ⊢
        refine Eq.trans ?_ ih
        unfold bound_Needed_l4
        rw [loopK_succ]
        generalize loopK _ k' = rec
        simp only [Int.ofNat_lt, hlt, decide_true, tst_true, ix_nat, hx, obind_some, h0', tst_not, tst_beq, if_pos hin, w64_succ (show j < 9223372036854775807 by omega)]
        rw [if_pos (by rfl)]
      | succ left =>
        have hm : min (left + 1) (1 + cnt (cs.drop (j + 1)) w.2.2.2.2.2.2.1 slot) = min left (cnt (cs.drop (j + 1)) w.2.2.2.2.2.2.1 slot) + 1 := by omega
        have ih := nd_l4 (E := E) (κ2 := κ2) (k := k) (A := A) (B := B) (l := l) (D := D) (E' := E') (fin := fin) (N := N) (S := S) (F := F) (q1 := q1) (q2 := q2) (rl := rl) (ls := ls) (ll := ll) (ri := ri) (J := J) (W := W) (r1 := r1) (r2 := r2) (n1 := n1) (n2 := n2) (n3 := n3) (n4 := n4) (n5 := n5) (n6 := n6) (s1 := s1) (s2 := s2) (s3 := s3) (f1 := f1) (f2 := f2) (f3 := f3) (f4 := f4) (f5 := f5) (f6 := f6) (rr := rr) (mo := mo) h0 hs hc m (j + 1) k' left (slot + 1) (mSet mp c true) (by omega) (by omega) (by omega)
        rw [hm, List.replicate_succ, lastOr_cons, Nat.add_sub_add_right, take_in hin', put_cons]
        refine Eq.trans ?_ ih
        unfold bound_Needed_l4
        rw [loopK_succ]
        generalize loopK _ k' = rec
        simp only [Int.ofNat_lt, hlt, decide_true, tst_true, ix_nat, hx, obind_some, h0', tst_not, tst_beq, if_pos hin, w64_succ (show j < 9223372036854775807 by omega), w64_pred (show left < 9223372036854775807 by omega), w64_of hs, ix_one, setI_one]
        rw [if_neg (by omega)]
theorem nd_l3 {k : Nat} (hk : Fuel k) {w : Way} {cs : List Cell} {fin : Int} (h0 : w.2.2.2.2.2.2.1 ≠ 0) (hf : -1000000000 ≤ fin ∧ fin ≤ 1000000000) (hc : cs.length ≤ 1000) {A D E E' : Way} {B : Int} {l : Link} {N : Network} {S : Schedule} {F : Flow} {q1 : List Cell} {q2 rl : Int} {ls : List (List Int)} {ll ri : Int} {J : Int} {W : Way} {r1 r2 : Int} {n1 : Int} {n2 : List (List Int)} {n3 n4 : Int} {n5 : List Link} {n6 : List Int} {s1 s2 : Int} {s3 : List Cell} {f1 f2 f3 f4 f5 f6 : Int} {rr : List Int} {mo : Int} {κ1 κ3 : _} :
    ∀ (m k' left : Nat) (slot a : Int) (mp : List (Cell × Bool × Unit)), slot + m = fin → m ≤ 1000000000 → m < k' → left ≤ 1000 →
      ∃ slot' : Int, bound_Needed_l3 k κ1 κ3 k' (w, (left : Int), cs, slot, (E, ()), A, B, l, D, (E', ()), N, S, F, q1, q2, rl, ls, ll, ri, ((J, ()), W, ()), (0, r1, r2), n1, n2, n3, n4, n5, n6, s1, s2, s3, f1, f2, f3, f4, f5, f6, rr, mo, a, fin, [mp], ()) =
      (if (hopS cs w.2.2.2.2.2.2.1 m slot left).2 = 0 then κ3 else κ1) (w, ((hopS cs w.2.2.2.2.2.2.1 m slot left).2 : Int), cs, slot', (E, ()), A, B, l, D, (E', ()), N, S, F, q1, q2, rl, ls, ll, ri, ((J, ()), W, ()), (0, r1, r2), n1, n2, n3, n4, n5, n6, s1, s2, s3, f1, f2, f3, f4, f5, f6, rr, mo, lastOr a (hopS cs w.2.2.2.2.2.2.1 m slot left).1, fin, [put mp (usedS cs w.2.2.2.2.2.2.1 m slot left)], ())
  | 0, k', left, slot, a, mp, hm, hb, hk', hl => by
    obtain ⟨k', rfl⟩ : ∃ q, k' = q + 1 := ⟨k' - 1, by omega⟩
    refine ⟨slot, ?_⟩
    unfold bound_Needed_l3
    rw [loopK_succ]
    rw [show hopS cs w.2.2.2.2.2.2.1 0 slot left = (([] : List Int), left) from rfl, lastOr_nil, show usedS cs w.2.2.2.2.2.2.1 0 slot left = [] from rfl, put_nil]
    by_cases h : left = 0
    · rw [ite_pos_app (show (([] : List Int), left).2 = 0 from h), tst_neg (by simp only; omega)]
    · rw [ite_neg_app (show ¬ (([] : List Int), left).2 = 0 from h), tst_pos (by simp only; omega), tst_pos (by simp only; omega)]
  | m + 1, k', left, slot, a, mp, hm, hb, hk', hl => by
    obtain ⟨k', rfl⟩ : ∃ q, k' = q + 1 := ⟨k' - 1, by omega⟩
    by_cases h : left = 0
    · subst h
      refine ⟨slot, ?_⟩
      unfold bound_Needed_l3 hopS usedS
      rw [loopK_succ]
      simp only [if_true, lastOr_nil, put_nil]
      rw [tst_neg (by simp)]
    · obtain ⟨slot', ih⟩ := nd_l3 (E := E) (κ1 := κ1) (κ3 := κ3) (A := A) (B := B) (l := l) (D := D) (E' := E') (fin := fin) (N := N) (S := S) (F := F) (q1 := q1) (q2 := q2) (rl := rl) (ls := ls) (ll := ll) (ri := ri) (J := J) (W := W) (r1 := r1) (r2 := r2) (n1 := n1) (n2 := n2) (n3 := n3) (n4 := n4) (n5 := n5) (n6 := n6) (s1 := s1) (s2 := s2) (s3 := s3) (f1 := f1) (f2 := f2) (f3 := f3) (f4 := f4) (f5 := f5) (f6 := f6) (rr := rr) (mo := mo) hk h0 hf hc m k' (left - min left (cnt cs w.2.2.2.2.2.2.1 slot)) (slot + 1) (lastOr a (List.replicate (min left (cnt cs w.2.2.2.2.2.2.1 slot)) slot)) (put mp ((cs.filter (inSlot w.2.2.2.2.2.2.1 slot)).take left)) (by omega) (by omega) (by omega) (by omega)
      refine ⟨slot', ?_⟩
      have e : hopS cs w.2.2.2.2.2.2.1 (m + 1) slot left = (List.replicate (min left (cnt cs w.2.2.2.2.2.2.1 slot)) slot ++ (hopS cs w.2.2.2.2.2.2.1 m (slot + 1) (left - min left (cnt cs w.2.2.2.2.2.2.1 slot))).1, (hopS cs w.2.2.2.2.2.2.1 m (slot + 1) (left - min left (cnt cs w.2.2.2.2.2.2.1 slot))).2) := by
        rw [hopS, if_neg h]
      have e' : usedS cs w.2.2.2.2.2.2.1 (m + 1) slot left = (cs.filter (inSlot w.2.2.2.2.2.2.1 slot)).take left ++ usedS cs w.2.2.2.2.2.2.1 m (slot + 1) (left - min left (cnt cs w.2.2.2.2.2.2.1 slot)) := by
        rw [usedS, if_neg h]
      rw [e, e']
      simp only [lastOr_append, put_append]
      refine Eq.trans ?_ ih
      unfold bound_Needed_l3
      rw [loopK_succ]
      generalize loopK _ k' = rec
      rw [tst_pos (by simp only; omega), tst_neg (by simp only; omega)]
      refine Eq.trans (nd_l4 (k := k) (slot := slot) h0 ⟨by omega, by omega⟩ hc cs.length 0 k left a mp (by omega) (by unfold Fuel at hk; omega) hl) ?_
      simp only [List.drop_zero, w64_of (show In64 (slot + 1) from ⟨by omega, by omega⟩)]
theorem nd_l3' {k : Nat} (hk : Fuel k) {w : Way} {cs : List Cell} {fin : Int} (h0 : w.2.2.2.2.2.2.1 ≠ 0) (hf : -1000000000 ≤ fin ∧ fin ≤ 1000000000) (hc : cs.length ≤ 1000) {A D E E' : Way} {B : Int} {l : Link} {N : Network} {S : Schedule} {F : Flow} {q1 : List Cell} {q2 rl : Int} {ls : List (List Int)} {ll ri : Int} {J : Int} {W : Way} {r1 r2 : Int} {n1 : Int} {n2 : List (List Int)} {n3 n4 : Int} {n5 : List Link} {n6 : List Int} {s1 s2 : Int} {s3 : List Cell} {f1 f2 f3 f4 f5 f6 : Int} {rr : List Int} {mo : Int} {κ1 κ3 : _}
    {left : Nat} {a : Int} {mp : List (Cell × Bool × Unit)} {X : Option (List Cell × Int × Unit)} (ha : a ≤ fin) (hb : 0 ≤ a) (hl : left ≤ 1000)
    (h3 : (hopS cs w.2.2.2.2.2.2.1 (fin - a).toNat a left).2 = 0 → ∀ slot' : Int, κ3 (w, 0, cs, slot', (E, ()), A, B, l, D, (E', ()), N, S, F, q1, q2, rl, ls, ll, ri, ((J, ()), W, ()), (0, r1, r2), n1, n2, n3, n4, n5, n6, s1, s2, s3, f1, f2, f3, f4, f5, f6, rr, mo, lastOr a (hopS cs w.2.2.2.2.2.2.1 (fin - a).toNat a left).1, fin, [put mp (usedS cs w.2.2.2.2.2.2.1 (fin - a).toNat a left)], ()) = X)
    (h1 : (hopS cs w.2.2.2.2.2.2.1 (fin - a).toNat a left).2 ≠ 0 → ∀ left' slot' a' : Int, κ1 (w, left', cs, slot', (E, ()), A, B, l, D, (E', ()), N, S, F, q1, q2, rl, ls, ll, ri, ((J, ()), W, ()), (0, r1, r2), n1, n2, n3, n4, n5, n6, s1, s2, s3, f1, f2, f3, f4, f5, f6, rr, mo, a', fin, [put mp (usedS cs w.2.2.2.2.2.2.1 (fin - a).toNat a left)], ()) = X) :
    bound_Needed_l3 k κ1 κ3 k (w, (left : Int), cs, a, (E, ()), A, B, l, D, (E', ()), N, S, F, q1, q2, rl, ls, ll, ri, ((J, ()), W, ()), (0, r1, r2), n1, n2, n3, n4, n5, n6, s1, s2, s3, f1, f2, f3, f4, f5, f6, rr, mo, a, fin, [mp], ()) = X := by
  obtain ⟨slot', q⟩ := nd_l3 (κ1 := κ1) (κ3 := κ3) (w := w) (cs := cs) (E := E) (A := A) (B := B) (l := l) (D := D) (E' := E') (fin := fin) (N := N) (S := S) (F := F) (q1 := q1) (q2 := q2) (rl := rl) (ls := ls) (ll := ll) (ri := ri) (J := J) (W := W) (r1 := r1) (r2 := r2) (n1 := n1) (n2 := n2) (n3 := n3) (n4 := n4) (n5 := n5) (n6 := n6) (s1 := s1) (s2 := s2) (s3 := s3) (f1 := f1) (f2 := f2) (f3 := f3) (f4 := f4) (f5 := f5) (f6 := f6) (rr := rr) (mo := mo) hk h0 hf hc (fin - a).toNat k left a a mp (by omega) (by omega) (by unfold Fuel at hk; omega) hl
  rw [q]
  by_cases h : (hopS cs w.2.2.2.2.2.2.1 (fin - a).toNat a left).2 = 0
  · rw [ite_pos_app h, h]; exact h3 h slot'
  · rw [ite_neg_app h]; exact h1 h _ _ _
variable {n : Network} {s : Schedule} {f : Flow} {r : List Int} {more : Int}
theorem nd_l2 {k : Nat} (hk : Fuel k) (hf : NetFit n) (ha : AllOk n s f r) (hm : 0 ≤ more ∧ more ≤ 80) {fin : Int} (hfin : fin ≤ 10000000) {N : Network} {S : Schedule} {F : Flow} {q1 : List Cell} {q2 rl : Int} {ls : List (List Int)} {ll ri : Int} {J : Int} {W : Way} {r1 r2 : Int} {n1 : Int} {n2 : List (List Int)} {n3 n4 : Int} {n5 : List Link} {n6 : List Int} {s1 s2 : Int} {s3 : List Cell} {f1 f2 f3 f4 f5 f6 : Int} {rr : List Int} {mo : Int} {κ0 κ4 : _} {K : List (Cell × Bool × Unit) → Option (List Cell × Int × Unit)}
    (e0 : ∀ (left : Int) (cs : List Cell) (slot B : Int) (l : Link) (a : Int) (mp : List (Cell × Bool × Unit)), κ0 (mkWay n s f r more, left, cs, slot, (mkWay n s f r more, ()), mkWay n s f r more, B, l, mkWay n s f r more, (mkWay n s f r more, ()), N, S, F, q1, q2, rl, ls, ll, ri, ((J, ()), W, ()), (0, r1, r2), n1, n2, n3, n4, n5, n6, s1, s2, s3, f1, f2, f3, f4, f5, f6, rr, mo, a, fin, [mp], ()) = K mp)
    (e4 : ∀ (B a : Int) (mp : List (Cell × Bool × Unit)), κ4 (mkWay n s f r more, B, mkWay n s f r more, (mkWay n s f r more, ()), N, S, F, q1, q2, rl, ls, ll, ri, ((J, ()), W, ()), (0, r1, r2), n1, n2, n3, n4, n5, n6, s1, s2, s3, f1, f2, f3, f4, f5, f6, rr, mo, a, fin, [mp], ()) = K mp) :
    ∀ (m i k' : Nat) (a : Int) (mp : List (Cell × Bool × Unit)), i + m = r.length → 1 ≤ i → m < k' → 0 ≤ a → a ≤ fin →
      bound_Needed_l2 k κ0 κ4 k' (mkWay n s f r more, (i : Int), mkWay n s f r more, (mkWay n s f r more, ()), N, S, F, q1, q2, rl, ls, ll, ri, ((J, ()), W, ()), (0, r1, r2), n1, n2, n3, n4, n5, n6, s1, s2, s3, f1, f2, f3, f4, f5, f6, rr, mo, a, fin, [mp], ()) = K (put mp (usedR (legC s f r) (legN n r more) s.1 fin m i a))
  | 0, i, k', a, mp, hi, h1, hk', h0a, hap => by
    obtain ⟨k', rfl⟩ : ∃ q, k' = q + 1 := ⟨k' - 1, by omega⟩
    unfold bound_Needed_l2
    rw [loopK_succ]
    rw [tst_neg (by simp only [ln, mk15]; omega), e4]
    simp [usedR, put_nil]
  | m + 1, i, k', a, mp, hi, h1, hk', h0a, hap => by
    obtain ⟨k', rfl⟩ : ∃ q, k' = q + 1 := ⟨k' - 1, by omega⟩
    have hr := ha.route.len.2
    obtain ⟨v, l, l1, l2, l3, l4, l5, l6, l7⟩ := leg_ok hk hf ha (i := i) h1 (by omega)
    obtain ⟨g1, g2, g3⟩ := legN_eq (r := r) (i := i) (n := n) hm l6 l7
    have hl := hop_last (C := legC s f r i) (L := s.1) (N := legN n r more i) hap
    have h512 := ha.sch.few
    have ih := nd_l2 (κ0 := κ0) (κ4 := κ4) (N := N) (S := S) (F := F) (q1 := q1) (q2 := q2) (rl := rl) (ls := ls) (ll := ll) (ri := ri) (J := J) (W := W) (r1 := r1) (r2 := r2) (n1 := n1) (n2 := n2) (n3 := n3) (n4 := n4) (n5 := n5) (n6 := n6) (s1 := s1) (s2 := s2) (s3 := s3) (f1 := f1) (f2 := f2) (f3 := f3) (f4 := f4) (f5 := f5) (f6 := f6) (rr := rr) (mo := mo) hk hf ha hm hfin e0 e4 m (i + 1) k' (lastOr a (hopS (legC s f r i) s.1 (fin - a).toNat a (legN n r more i)).1) (put mp (usedS (legC s f r i) s.1 (fin - a).toNat a (legN n r more i))) (by omega) (by omega) (by omega) (by omega) (by omega)
    have hw : w64 ((i : Int) - 1) = ((i - 1 : Nat) : Int) := by rw [w64_of ⟨by omega, by omega⟩]; omega
    have hleft : w64 (w64 (l.2.2.1 + more) + 1) = (legN n r more i : Int) := by
      rw [w64_of (n := l.2.2.1 + more) ⟨by omega, by omega⟩, w64_of ⟨by omega, by omega⟩, g1]
    have hcell : bound_way_cells k (mkWay n s f r more) (l.1, l.2.1, w64 (l.2.2.1 + more), ()) = some (legC s f r i) := by
      rw [cells_eq hk _ _ (by simp only [mk8]; omega)]
      unfold legC
      rw [← l4, ← l5]
      rfl
    have hcl : (legC s f r i).length ≤ 1000 := by
      unfold legC
      have := List.length_filter_le (keeps f.1 (node r (i - 1), node r i, 0, ())) s.2.2.1
      omega
    unfold usedR
    by_cases h : (hopS (legC s f r i) s.1 (fin - a).toNat a (legN n r more i)).2 = 0
    · rw [if_pos h]
      rw [put_append]
      refine Eq.trans ?_ ih
      unfold bound_Needed_l2
      rw [loopK_succ]
      generalize loopK _ k' = rec
      rw [tst_pos (by simp only [ln, mk15]; omega)]
      simp only [mk0, mk1, mk2, mk3, mk4, mk5, mk15, mk16, eta_net]
      simp only [hw, ix_nat, node_at (show i - 1 < r.length by omega), node_at (show i < r.length by omega), obind_some, l1, l3, hcell, hleft]
      refine nd_l3' hk (by simp only [mk6]; have := ha.sch.len; omega) ⟨by omega, by omega⟩ hcl hap h0a (by omega) (fun _ slot' => ?_) (fun q => absurd h q)
      simp only [mk6, w64_succ (show i < 9223372036854775807 by omega)]
    · rw [if_neg h]
      unfold bound_Needed_l2
      rw [loopK_succ]
      generalize loopK _ k' = rec
      rw [tst_pos (by simp only [ln, mk15]; omega)]
      simp only [mk0, mk1, mk2, mk3, mk4, mk5, mk15, mk16, eta_net]
      simp only [hw, ix_nat, node_at (show i - 1 < r.length by omega), node_at (show i < r.length by omega), obind_some, l1, l3, hcell, hleft]
      refine nd_l3' hk (by simp only [mk6]; have := ha.sch.len; omega) ⟨by omega, by omega⟩ hcl hap h0a (by omega) (fun q => absurd q h) (fun _ left' slot' a' => ?_)
      rw [e0]
      simp only [mk6]
theorem nd_l1 {k : Nat} (hk : Fuel k) (hf : NetFit n) (ha : AllOk n s f r) {q1 : List Cell} {q2 : Int} {ls : List (List Int)} {ll ri r1 r2 : Int} {κ5 : _} {K : List (Cell × Bool × Unit) → Option (List Cell × Int × Unit)}
    (e5 : ∀ (rel : Int) (mp : List (Cell × Bool × Unit)), κ5 (n, s, f, q1, q2, rel, ls, ll, ri, (0, r1, r2), n.1, n.2.1, n.2.2.1, n.2.2.2.1, n.2.2.2.2.1, n.2.2.2.2.2.1, s.1, s.2.1, s.2.2.1, f.1, f.2.1, f.2.2.1, f.2.2.2.1, f.2.2.2.2.1, f.2.2.2.2.2.1, r, 0, [mp], ()) = K mp) :
    ∀ (m k' : Nat) (rel : Int) (mp : List (Cell × Bool × Unit)), s.1 ≤ rel + m → m < k' → 0 ≤ rel → rel ≤ 2000 →
      bound_Needed_l1 k κ5 k' (n, s, f, q1, q2, rel, ls, ll, ri, (0, r1, r2), n.1, n.2.1, n.2.2.1, n.2.2.2.1, n.2.2.2.2.1, n.2.2.2.2.2.1, s.1, s.2.1, s.2.2.1, f.1, f.2.1, f.2.2.1, f.2.2.2.1, f.2.2.2.2.1, f.2.2.2.2.2.1, r, 0, [mp], ()) = K (put mp ((rels s.1 f.2.2.2.1 m rel).flatMap (usedRel n s f r)))
  | 0, k', rel, mp, hr, hk', h0, h1 => by
    obtain ⟨k', rfl⟩ : ∃ q, k' = q + 1 := ⟨k' - 1, by omega⟩
    unfold bound_Needed_l1
    rw [loopK_succ]
    rw [tst_neg (by simp only; omega), e5]
    rfl
  | m + 1, k', rel, mp, hr, hk', h0, h1 => by
    obtain ⟨k', rfl⟩ : ∃ q, k' = q + 1 := ⟨k' - 1, by omega⟩
    have hp := ha.flow.period
    have hl := ha.sch.len
    have hrl := ha.route.len
    unfold rels
    by_cases h : rel < s.1
    · rw [if_pos h, List.flatMap_cons, put_append]
      have ih := nd_l1 hk hf ha e5 m k' (rel + f.2.2.2.1) (put mp (usedRel n s f r rel)) (by omega) (by omega) (by omega) (by omega)
      refine Eq.trans ?_ ih
      unfold bound_Needed_l1
      rw [loopK_succ]
      generalize loopK _ k' = rec
      rw [tst_pos (by simp only; exact h)]
      have hw : w64 (rel + f.2.2.2.1) = rel + f.2.2.2.1 := w64_of ⟨by omega, by omega⟩
      refine Eq.trans (nd_l2 (more := 0) (K := fun mp => rec (n, s, f, q1, q2, (w64 (rel + f.2.2.2.1)), ls, ll, ri, (0, r1, r2), n.1, n.2.1, n.2.2.1, n.2.2.2.1, n.2.2.2.2.1, n.2.2.2.2.2.1, s.1, s.2.1, s.2.2.1, f.1, f.2.1, f.2.2.1, f.2.2.2.1, f.2.2.2.2.1, f.2.2.2.2.2.1, r, 0, [mp], ())) hk hf ha ⟨by omega, by omega⟩ (fin := w64 (rel + f.2.2.2.1)) (by rw [hw]; omega) (fun left cs slot B l a mp => ?_) (fun B a mp => ?_) (r.length - 1) 1 k rel mp (by omega) (by omega) (by unfold Fuel at hk; omega) h0 (by rw [hw]; omega)) ?_
      · rfl
      · rfl
      · simp only [hw]
        rfl
    · rw [if_neg h]
      unfold bound_Needed_l1
      rw [loopK_succ]
      rw [tst_neg (by simp only; exact h), e5]
      rfl
end Go.Evl.Sh
