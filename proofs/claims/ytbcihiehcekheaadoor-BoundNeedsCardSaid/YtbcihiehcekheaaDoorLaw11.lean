/-
  The slots that count on a link: what both packages collect.
  Conditions: none.
-/
import Derived.Test.YtbcihiehcekheaaDoorLaw10
namespace Go.Evl.Sh
open Go Go.Evl
set_option linter.unusedVariables false
set_option linter.unusedSimpArgs false

/-- A cell lies in a slot. -/
def inSlot (L s : Int) (c : Cell) : Bool := c.1 == Int.tmod s L
def cnt (cs : List Cell) (L s : Int) : Nat := (cs.filter (inSlot L s)).length
/-- The slots that count on a link from a slot on, among so many slots, and how many are lacking. -/
def hopS (cs : List Cell) (L : Int) : Nat → Int → Nat → List Int × Nat
  | 0, _, left => ([], left)
  | m + 1, s, left => if left = 0 then ([], 0) else
    (List.replicate (min left (cnt cs L s)) s ++ (hopS cs L m (s + 1) (left - min left (cnt cs L s))).1, (hopS cs L m (s + 1) (left - min left (cnt cs L s))).2)
theorem hopS_len (cs : List Cell) (L : Int) : ∀ (m : Nat) (s : Int) (left : Nat), (hopS cs L m s left).1.length + (hopS cs L m s left).2 = left
  | 0, _, left => by simp [hopS]
  | m + 1, s, left => by
    unfold hopS
    by_cases h : left = 0
    · rw [if_pos h]; simp [h]
    · rw [if_neg h]
      have := hopS_len cs L m (s + 1) (left - min left (cnt cs L s))
      simp only [List.length_append, List.length_replicate]
      omega
theorem hopS_mem (cs : List Cell) (L : Int) : ∀ (m : Nat) (s : Int) (left : Nat), ∀ x ∈ (hopS cs L m s left).1, s ≤ x ∧ x < s + m
  | 0, _, left => by simp [hopS]
  | m + 1, s, left => by
    intro x hx
    unfold hopS at hx
    by_cases h : left = 0
    · rw [if_pos h] at hx; simp at hx
    · rw [if_neg h] at hx
      simp only [List.mem_append, List.mem_replicate] at hx
      rcases hx with ⟨_, rfl⟩ | hx
      · omega
      · have := hopS_mem cs L m (s + 1) (left - min left (cnt cs L s)) x hx
        omega
/-- One slot behind the last one. -/
def lastOr (d : Int) (xs : List Int) : Int := (xs.getLast?.map (· + 1)).getD d
theorem lastOr_nil (d : Int) : lastOr d [] = d := rfl
theorem lastOr_append (d : Int) (xs ys : List Int) : lastOr d (xs ++ ys) = lastOr (lastOr d xs) ys := by
  unfold lastOr
  rw [List.getLast?_append]
  cases ys.getLast? <;> simp
theorem lastOr_cons (d x : Int) (xs : List Int) : lastOr d (x :: xs) = lastOr (x + 1) xs := by
  rw [show x :: xs = [x] ++ xs from rfl, lastOr_append]; rfl
theorem lastOr_le {d : Int} {xs : List Int} {lo hi : Int} (hd : lo ≤ d ∧ d ≤ hi) (h : ∀ x ∈ xs, lo ≤ x ∧ x < hi) : lo ≤ lastOr d xs ∧ lastOr d xs ≤ hi := by
  unfold lastOr
  cases e : xs.getLast? with
  | none => exact hd
  | some x =>
    have := h x (List.mem_of_getLast? e)
    simp only [Option.map_some, Option.getD_some]
    omega
theorem w64_pred {n : Nat} (h : n < 9223372036854775807) : w64 (((n + 1 : Nat) : Int) - 1) = (n : Int) := by
  rw [w64_of ⟨by omega, by omega⟩]; omega
theorem cnt_cons (c : Cell) (cs : List Cell) (L s : Int) : cnt (c :: cs) L s = (if inSlot L s c = true then 1 else 0) + cnt cs L s := by
  unfold cnt
  rw [List.filter_cons]
  by_cases h : inSlot L s c = true
  · rw [if_pos h, if_pos h, List.length_cons]; omega
  · rw [if_neg h, if_neg h]; omega
theorem rel_l2 {k : Nat} {w : Way} {cs : List Cell} {slot rel fin : Int} (h0 : w.2.2.2.2.2.2.1 ≠ 0) (hs : In64 (slot + 1)) (hc : cs.length ≤ 1000) {A D E E' F W : Way} {B G : Int} {l : Link} {H : List Int} {I : Bool} {J : Int}
    {κ2 : (Way × Int × (List Cell) × Int × (Way × Unit) × (List Cell) × Int × Int × Way × Int × Link × Way × (Way × Unit) × Way × (Int × Unit) × Int × (List Int) × Bool × ((Int × Unit) × Way × Unit) × (List Int) × Int × Int × Unit) → Option (Int × (List Int) × Bool × Unit)} :
    ∀ (m j k' left : Nat) (out : List Int) (a : Int), j + m = cs.length → m < k' → left ≤ 1000 → out.length + left ≤ 100000 →
      bound_way_release_l2 k κ2 k' (w, (left : Int), cs, slot, (E, ()), cs, (cs.length : Int), (j : Int), A, B, l, D, (E', ()), F, (rel, ()), G, H, I, ((J, ()), W, ()), out, a, fin, ()) =
      κ2 (w, ((left - min left (cnt (cs.drop j) w.2.2.2.2.2.2.1 slot) : Nat) : Int), cs, slot, (E, ()), cs, (cs.length : Int), (cs.length : Int), A, B, l, D, (E', ()), F, (rel, ()), G, H, I, ((J, ()), W, ()), out ++ List.replicate (min left (cnt (cs.drop j) w.2.2.2.2.2.2.1 slot)) (w64 (slot - rel)), lastOr a (List.replicate (min left (cnt (cs.drop j) w.2.2.2.2.2.2.1 slot)) slot), fin, ())
  | 0, j, k', left, out, a, hj, hk, hl, ho => by
    obtain ⟨k', rfl⟩ : ∃ q, k' = q + 1 := ⟨k' - 1, by omega⟩
    have : j = cs.length := by omega
    subst this
    unfold bound_way_release_l2
    rw [loopK_succ]
    simp [tst_false, cnt, lastOr_nil]
  | m + 1, j, k', left, out, a, hj, hk, hl, ho => by
    obtain ⟨k', rfl⟩ : ∃ q, k' = q + 1 := ⟨k' - 1, by omega⟩
    have hlt : j < cs.length := by omega
    have hd : cs.drop j = cs[j] :: cs.drop (j + 1) := (List.getElem_cons_drop hlt).symm
    have hx : cs[j]? = some cs[j] := List.getElem?_eq_getElem _
    generalize cs[j] = c at hd hx
    rw [hd, cnt_cons]
    have h0' : (w.2.2.2.2.2.2.1 != 0) = true := by simpa using h0
    by_cases hin : c.1 = Int.tmod slot w.2.2.2.2.2.2.1
    rotate_left
    · have hin' : ¬ inSlot w.2.2.2.2.2.2.1 slot c = true := by unfold inSlot; rw [beq_iff_eq]; exact hin
      rw [if_neg hin', Nat.zero_add]
      refine Eq.trans ?_ (rel_l2 (k := k) (E := E) (W := W) h0 hs hc m (j + 1) k' left out a (by omega) (by omega) hl ho)
      unfold bound_way_release_l2
      rw [loopK_succ]
      generalize loopK _ k' = rec
      simp only [Int.ofNat_lt, hlt, decide_true, tst_true, ix_nat, hx, obind_some, h0', tst_not, tst_beq, if_neg hin, w64_succ (show j < 9223372036854775807 by omega)]
    · have hin' : inSlot w.2.2.2.2.2.2.1 slot c = true := by unfold inSlot; rw [beq_iff_eq]; exact hin
      rw [if_pos hin']
      cases left with
      | zero =>
        have ih := rel_l2 (E := E) (W := W) (κ2 := κ2) (k := k) (A := A) (B := B) (l := l) (D := D) (E' := E') (F := F) (G := G) (H := H) (I := I) (J := J) (rel := rel) (fin := fin) h0 hs hc m (j + 1) k' 0 out a (by omega) (by omega) hl ho
        rw [Nat.zero_min] at ih ⊢
        refine Eq.trans ?_ ih
        unfold bound_way_release_l2
        rw [loopK_succ]
        generalize loopK _ k' = rec
        simp only [Int.ofNat_lt, hlt, decide_true, tst_true, ix_nat, hx, obind_some, h0', tst_not, tst_beq, if_pos hin, w64_succ (show j < 9223372036854775807 by omega)]
        rw [if_pos (by rfl)]
      | succ left =>
        have hm : min (left + 1) (1 + cnt (cs.drop (j + 1)) w.2.2.2.2.2.2.1 slot) = min left (cnt (cs.drop (j + 1)) w.2.2.2.2.2.2.1 slot) + 1 := by omega
        have ih := rel_l2 (E := E) (W := W) (κ2 := κ2) (k := k) (A := A) (B := B) (l := l) (D := D) (E' := E') (F := F) (G := G) (H := H) (I := I) (J := J) (rel := rel) (fin := fin) h0 hs hc m (j + 1) k' left (out ++ [w64 (slot - rel)]) (slot + 1) (by omega) (by omega) (by omega) (by simp; omega)
        rw [hm, List.replicate_succ, List.replicate_succ, lastOr_cons, Nat.add_sub_add_right]
        rw [List.append_assoc, List.singleton_append] at ih
        refine Eq.trans ?_ ih
        unfold bound_way_release_l2
        rw [loopK_succ]
        generalize loopK _ k' = rec
        simp only [Int.ofNat_lt, hlt, decide_true, tst_true, ix_nat, hx, obind_some, h0', tst_not, tst_beq, if_pos hin, w64_succ (show j < 9223372036854775807 by omega), fit8_of (show out.length ≤ 1000000 by omega), w64_pred (show left < 9223372036854775807 by omega), w64_of hs]
        rw [if_neg (by omega)]
theorem tst_t {β : Type} {b : Bool} (h : b = true) {x y : Option β} : tst b x y = x := by rw [h]; rfl
theorem tst_f {β : Type} {b : Bool} (h : b = false) {x y : Option β} : tst b x y = y := by rw [h]; rfl
theorem ite_pos_app {α β : Type} {c : Prop} [Decidable c] (h : c) (f g : α → β) (x : α) : (if c then f else g) x = f x := by rw [if_pos h]
theorem ite_neg_app {α β : Type} {c : Prop} [Decidable c] (h : ¬ c) (f g : α → β) (x : α) : (if c then f else g) x = g x := by rw [if_neg h]
theorem rel_l1 {k : Nat} (hk : Fuel k) {w : Way} {cs : List Cell} {rel fin : Int} (h0 : w.2.2.2.2.2.2.1 ≠ 0) (hf : -1000000000 ≤ fin ∧ fin ≤ 1000000000) (hc : cs.length ≤ 1000) {A D E E' F W : Way} {B G : Int} {l : Link} {H : List Int} {I : Bool} {J : Int}
    {κ1 κ3 : (Way × Int × (List Cell) × Int × (Way × Unit) × Way × Int × Link × Way × (Way × Unit) × Way × (Int × Unit) × Int × (List Int) × Bool × ((Int × Unit) × Way × Unit) × (List Int) × Int × Int × Unit) → Option (Int × (List Int) × Bool × Unit)} :
    ∀ (m k' left : Nat) (slot : Int) (out : List Int) (a : Int), slot + m = fin → m ≤ 1000000000 → m < k' → left ≤ 1000 → out.length + left ≤ 100000 →
      ∃ slot' : Int, bound_way_release_l1 k κ1 κ3 k' (w, (left : Int), cs, slot, (E, ()), A, B, l, D, (E', ()), F, (rel, ()), G, H, I, ((J, ()), W, ()), out, a, fin, ()) =
      (if (hopS cs w.2.2.2.2.2.2.1 m slot left).2 = 0 then κ3 else κ1) (w, ((hopS cs w.2.2.2.2.2.2.1 m slot left).2 : Int), cs, slot', (E, ()), A, B, l, D, (E', ()), F, (rel, ()), G, H, I, ((J, ()), W, ()), out ++ (hopS cs w.2.2.2.2.2.2.1 m slot left).1.map (fun v => w64 (v - rel)), lastOr a (hopS cs w.2.2.2.2.2.2.1 m slot left).1, fin, ())
  | 0, k', left, slot, out, a, hm, hb, hk', hl, ho => by
    obtain ⟨k', rfl⟩ : ∃ q, k' = q + 1 := ⟨k' - 1, by omega⟩
    refine ⟨slot, ?_⟩
    unfold bound_way_release_l1
    rw [loopK_succ]
    rw [show hopS cs w.2.2.2.2.2.2.1 0 slot left = (([] : List Int), left) from rfl, List.map_nil, List.append_nil, lastOr_nil]
    by_cases h : left = 0
    · rw [ite_pos_app (show (([] : List Int), left).2 = 0 from h), tst_neg (by simp only; omega)]
    · rw [ite_neg_app (show ¬ (([] : List Int), left).2 = 0 from h), tst_pos (by simp only; omega), tst_pos (by simp only; omega)]
  | m + 1, k', left, slot, out, a, hm, hb, hk', hl, ho => by
    obtain ⟨k', rfl⟩ : ∃ q, k' = q + 1 := ⟨k' - 1, by omega⟩
    by_cases h : left = 0
    · subst h
      refine ⟨slot, ?_⟩
      unfold bound_way_release_l1 hopS
      rw [loopK_succ]
      simp only [if_true, List.map_nil, List.append_nil, lastOr_nil]
      rw [tst_neg (by simp)]
    · obtain ⟨slot', ih⟩ := rel_l1 (E := E) (W := W) (κ1 := κ1) (κ3 := κ3) (A := A) (B := B) (l := l) (D := D) (E' := E') (F := F) (G := G) (H := H) (I := I) (J := J) (rel := rel) (fin := fin) hk h0 hf hc m k' (left - min left (cnt cs w.2.2.2.2.2.2.1 slot)) (slot + 1) (out ++ List.replicate (min left (cnt cs w.2.2.2.2.2.2.1 slot)) (w64 (slot - rel))) (lastOr a (List.replicate (min left (cnt cs w.2.2.2.2.2.2.1 slot)) slot)) (by omega) (by omega) (by omega) (by omega) (by simp only [List.length_append, List.length_replicate]; omega)
      refine ⟨slot', ?_⟩
      have e : hopS cs w.2.2.2.2.2.2.1 (m + 1) slot left = (List.replicate (min left (cnt cs w.2.2.2.2.2.2.1 slot)) slot ++ (hopS cs w.2.2.2.2.2.2.1 m (slot + 1) (left - min left (cnt cs w.2.2.2.2.2.2.1 slot))).1, (hopS cs w.2.2.2.2.2.2.1 m (slot + 1) (left - min left (cnt cs w.2.2.2.2.2.2.1 slot))).2) := by
        rw [hopS, if_neg h]
      rw [e]
      simp only [List.map_append, List.map_replicate, lastOr_append]
      rw [← List.append_assoc]
      refine Eq.trans ?_ ih
      unfold bound_way_release_l1
      rw [loopK_succ]
      generalize loopK _ k' = rec
      rw [tst_pos (by simp only; omega), tst_neg (by simp only; omega)]
      have r2 := rel_l2 (k := k) (w := w) (cs := cs) (slot := slot) (rel := rel) (fin := fin) (E := E) (A := A) (B := B) (l := l) (D := D) (E' := E') (F := F) (G := G) (H := H) (I := I) (J := J) (W := W) (κ2 := fun t12 => rec (t12.1, t12.2.1, t12.2.2.1, w64 (t12.2.2.2.1 + 1), (t12.2.2.2.2.1.1, ()), t12.2.2.2.2.2.2.2.2.1, t12.2.2.2.2.2.2.2.2.2.1, t12.2.2.2.2.2.2.2.2.2.2.1, t12.2.2.2.2.2.2.2.2.2.2.2.1, (t12.2.2.2.2.2.2.2.2.2.2.2.2.1.1, ()), t12.2.2.2.2.2.2.2.2.2.2.2.2.2.1, t12.2.2.2.2.2.2.2.2.2.2.2.2.2.2.1, t12.2.2.2.2.2.2.2.2.2.2.2.2.2.2.2.1, t12.2.2.2.2.2.2.2.2.2.2.2.2.2.2.2.2.1, t12.2.2.2.2.2.2.2.2.2.2.2.2.2.2.2.2.2.1, (t12.2.2.2.2.2.2.2.2.2.2.2.2.2.2.2.2.2.2.1.1, t12.2.2.2.2.2.2.2.2.2.2.2.2.2.2.2.2.2.2.1.2.1, ()), t12.2.2.2.2.2.2.2.2.2.2.2.2.2.2.2.2.2.2.2)) h0 ⟨by omega, by omega⟩ hc cs.length 0 k left out a (by omega) (by unfold Fuel at hk; omega) hl ho
      refine r2.trans ?_
      simp only [List.drop_zero, w64_of (show In64 (slot + 1) from ⟨by omega, by omega⟩)]
/-! ### The reference -/
theorem hop_l1 {k : Nat} {s : Schedule} {f : Flow} {p q need last slot : Int} (h0 : s.1 ≠ 0) (hc : s.2.2.1.length ≤ 1000) {κ0 : (Int × Int × Int × Int × Schedule × Flow × (List Int) × Int × Int × Unit) → Option ((List Int) × Bool × Unit)} :
    ∀ (m j k' left : Nat) (out : List Int), j + m = s.2.2.1.length → m < k' → left ≤ 1000 → out.length + left = need → out.length + left ≤ 100000 →
      ref37_hop_l1 k κ0 k' (p, q, need, last, s, f, out, slot, (j : Int), ()) =
      κ0 (p, q, need, last, s, f, out ++ List.replicate (min left (cnt ((s.2.2.1.drop j).filter (keeps f.1 (p, q, 0, ()))) s.1 slot)) slot, slot, (s.2.2.1.length : Int), ())
  | 0, j, k', left, out, hj, hk, hl, hn, ho => by
    obtain ⟨k', rfl⟩ : ∃ q, k' = q + 1 := ⟨k' - 1, by omega⟩
    have : j = s.2.2.1.length := by omega
    subst this
    unfold ref37_hop_l1
    rw [loopK_succ]
    simp [tst_false, cnt, ln]
  | m + 1, j, k', left, out, hj, hk, hl, hn, ho => by
    obtain ⟨k', rfl⟩ : ∃ q, k' = q + 1 := ⟨k' - 1, by omega⟩
    have hlt : j < s.2.2.1.length := by omega
    have hd : s.2.2.1.drop j = s.2.2.1[j] :: s.2.2.1.drop (j + 1) := (List.getElem_cons_drop hlt).symm
    have hx : s.2.2.1[j]? = some s.2.2.1[j] := List.getElem?_eq_getElem _
    generalize s.2.2.1[j] = c at hd hx
    have h0' : (s.1 != 0) = true := by simpa using h0
    have ih0 := hop_l1 (k := k) (f := f) (p := p) (q := q) (last := last) (slot := slot) (need := need) (κ0 := κ0) h0 hc m (j + 1) k' left out (by omega) (by omega) hl hn ho
    rw [hd, List.filter_cons]
    by_cases hin : c.1 = Int.tmod slot s.1 ∧ keeps f.1 (p, q, 0, ()) c = true
    · have hin' : inSlot s.1 slot c = true := by unfold inSlot; rw [beq_iff_eq]; exact hin.1
      rw [if_pos hin.2, cnt_cons, if_pos hin']
      have hk2 := hin.2
      unfold keeps at hk2
      simp only [Bool.and_eq_true, beq_iff_eq] at hk2
      obtain ⟨z1, z2, z3⟩ := hk2
      cases left with
      | zero =>
        rw [Nat.zero_min] at ih0 ⊢
        refine Eq.trans ?_ ih0
        unfold ref37_hop_l1
        rw [loopK_succ]
        generalize loopK _ k' = rec
        simp only [ln, Int.ofNat_lt, hlt, decide_true, tst_true, ix_nat, hx, obind_some, h0', tst_beq, if_pos hin.1, if_pos z1, if_pos z2, if_pos z3, w64_succ (show j < 9223372036854775807 by omega)]
        exact tst_f (decide_eq_false (by omega))
      | succ left =>
        have hm : min (left + 1) (1 + cnt ((s.2.2.1.drop (j + 1)).filter (keeps f.1 (p, q, 0, ()))) s.1 slot) = min left (cnt ((s.2.2.1.drop (j + 1)).filter (keeps f.1 (p, q, 0, ()))) s.1 slot) + 1 := by omega
        have ih := hop_l1 (k := k) (f := f) (p := p) (q := q) (last := last) (slot := slot) (need := need) (κ0 := κ0) h0 hc m (j + 1) k' left (out ++ [slot]) (by omega) (by omega) (by omega) (by simp; omega) (by simp; omega)
        rw [hm, List.replicate_succ]
        rw [List.append_assoc, List.singleton_append] at ih
        refine Eq.trans ?_ ih
        unfold ref37_hop_l1
        rw [loopK_succ]
        generalize loopK _ k' = rec
        simp only [ln, Int.ofNat_lt, hlt, decide_true, tst_true, ix_nat, hx, obind_some, h0', tst_beq, if_pos hin.1, if_pos z1, if_pos z2, if_pos z3, w64_succ (show j < 9223372036854775807 by omega), fit8_of (show out.length ≤ 1000000 by omega)]
        exact tst_t (decide_eq_true (by omega))
    · have e : cnt (if keeps f.1 (p, q, 0, ()) c = true then c :: (s.2.2.1.drop (j + 1)).filter (keeps f.1 (p, q, 0, ())) else (s.2.2.1.drop (j + 1)).filter (keeps f.1 (p, q, 0, ()))) s.1 slot = cnt ((s.2.2.1.drop (j + 1)).filter (keeps f.1 (p, q, 0, ()))) s.1 slot := by
        by_cases h1 : keeps f.1 (p, q, 0, ()) c = true
        · rw [if_pos h1, cnt_cons, if_neg (by unfold inSlot; rw [beq_iff_eq]; exact fun h => hin ⟨h, h1⟩), Nat.zero_add]
        · rw [if_neg h1]
      rw [e]
      refine Eq.trans ?_ ih0
      unfold ref37_hop_l1
      rw [loopK_succ]
      generalize loopK _ k' = rec
      simp only [ln, Int.ofNat_lt, hlt, decide_true, tst_true, ix_nat, hx, obind_some, h0', tst_beq, w64_succ (show j < 9223372036854775807 by omega)]
      by_cases z0 : c.1 = Int.tmod slot s.1
      · rw [if_pos z0]
        by_cases z1 : c.2.2.2.2.1 = f.1
        · rw [if_pos z1]
          by_cases z2 : c.2.2.1 = p
          · rw [if_pos z2]
            by_cases z3 : c.2.2.2.1 = q
            · exact absurd ⟨z0, by unfold keeps; simp [z1, z2, z3]⟩ hin
            · rw [if_neg z3]
          · rw [if_neg z2]
        · rw [if_neg z1]
      · rw [if_neg z0]
theorem full_eq {out : List Int} {left : Nat} {need : Int} (h : (out.length : Int) + left = need) : ((ln out) == need) = decide (left = 0) := by
  unfold ln
  by_cases e : left = 0
  · rw [decide_eq_true e, beq_iff_eq]; omega
  · rw [decide_eq_false e, beq_eq_false_iff_ne]; omega
theorem hop_l0 {k : Nat} (hk : Fuel k) {s : Schedule} {f : Flow} {p q need last : Int} (h0 : s.1 ≠ 0) (hf : -1000000000 ≤ last ∧ last < 1000000000) (hc : s.2.2.1.length ≤ 1000) :
    ∀ (m k' left : Nat) (slot : Int) (out : List Int), slot + m = last + 1 → m ≤ 1000000000 → m < k' → left ≤ 1000 → out.length + left = need → out.length + left ≤ 100000 →
      ref37_hop_l0 k k' (p, q, need, last, s, f, out, slot, ()) = some (out ++ (hopS (s.2.2.1.filter (keeps f.1 (p, q, 0, ()))) s.1 m slot left).1, decide ((hopS (s.2.2.1.filter (keeps f.1 (p, q, 0, ()))) s.1 m slot left).2 = 0), ())
  | 0, k', left, slot, out, hm, hb, hk', hl, hn, ho => by
    obtain ⟨k', rfl⟩ : ∃ q, k' = q + 1 := ⟨k' - 1, by omega⟩
    unfold ref37_hop_l0
    rw [loopK_succ]
    rw [tst_neg (by simp only; omega)]
    simp only [hopS, List.append_nil]
    rw [full_eq (by omega)]
    rfl
  | m + 1, k', left, slot, out, hm, hb, hk', hl, hn, ho => by
    obtain ⟨k', rfl⟩ : ∃ q, k' = q + 1 := ⟨k' - 1, by omega⟩
    by_cases h : left = 0
    · subst h
      unfold ref37_hop_l0 hopS
      rw [loopK_succ]
      rw [tst_pos (by simp only; omega), tst_neg (by simp only [ln]; omega)]
      simp only [if_true, List.append_nil]
      rw [full_eq (left := 0) (by omega)]
      rfl
    · generalize hcs : s.2.2.1.filter (keeps f.1 (p, q, 0, ())) = cs
      have ih := hop_l0 (p := p) (q := q) (need := need) (f := f) (last := last) hk h0 hf hc m k' (left - min left (cnt cs s.1 slot)) (slot + 1) (out ++ List.replicate (min left (cnt cs s.1 slot)) slot) (by omega) (by omega) (by omega) (by omega) (by simp only [List.length_append, List.length_replicate]; omega) (by simp only [List.length_append, List.length_replicate]; omega)
      rw [hcs] at ih
      have e : hopS cs s.1 (m + 1) slot left = (List.replicate (min left (cnt cs s.1 slot)) slot ++ (hopS cs s.1 m (slot + 1) (left - min left (cnt cs s.1 slot))).1, (hopS cs s.1 m (slot + 1) (left - min left (cnt cs s.1 slot))).2) := by
        rw [hopS, if_neg h]
      rw [e]
      simp only
      rw [← List.append_assoc]
      refine Eq.trans ?_ ih
      unfold ref37_hop_l0
      rw [loopK_succ]
      generalize loopK _ k' = rec
      rw [tst_pos (by simp only; omega), tst_pos (by simp only [ln]; omega)]
      have r2 := hop_l1 (k := k) (s := s) (f := f) (p := p) (q := q) (need := need) (last := last) (slot := slot) (κ0 := fun t3 => rec (t3.1, t3.2.1, t3.2.2.1, t3.2.2.2.1, t3.2.2.2.2.1, t3.2.2.2.2.2.1, t3.2.2.2.2.2.2.1, w64 (t3.2.2.2.2.2.2.2.1 + 1), ())) h0 hc s.2.2.1.length 0 k left out (by omega) (by unfold Fuel at hk; omega) hl hn ho
      refine r2.trans ?_
      simp only [List.drop_zero, hcs, w64_of (show In64 (slot + 1) from ⟨by omega, by omega⟩)]
theorem hop_eq {k : Nat} (hk : Fuel k) {s : Schedule} {f : Flow} {p q last a : Int} {need : Nat} (h0 : s.1 ≠ 0) (ha : 0 ≤ a ∧ a ≤ last + 1) (hf : last < 1000000000) (hc : s.2.2.1.length ≤ 1000) (hn : need ≤ 1000) :
    ref37_hop k s f p q need a last = some ((hopS (s.2.2.1.filter (keeps f.1 (p, q, 0, ()))) s.1 (last + 1 - a).toNat a need).1, decide ((hopS (s.2.2.1.filter (keeps f.1 (p, q, 0, ()))) s.1 (last + 1 - a).toNat a need).2 = 0), ()) := by
  unfold ref37_hop
  have := hop_l0 (k := k) (s := s) (f := f) (p := p) (q := q) (need := need) (last := last) hk h0 ⟨by omega, hf⟩ hc (last + 1 - a).toNat k need a [] (by omega) (by omega) (by unfold Fuel at hk; omega) hn (by simp) (by simp; omega)
  simpa using this
end Go.Evl.Sh
