/-
  The slots that count on a route: what both packages collect for a release.
  Conditions: none.
-/
import Derived.Test.YtbcihiehcekheaaDoorLaw11
namespace Go.Evl.Sh
open Go Go.Evl
set_option linter.unusedVariables false
set_option linter.unusedSimpArgs false

/-- The loss of the link between two nodes. -/
def lossOf (n : Network) (a b : Int) : Int := ((n.2.2.2.2.1.find? fun l => l.1 == a && l.2.1 == b).map (·.2.2.1)).getD 0
def node (r : List Int) (i : Nat) : Int := (r[i]?).getD 0
def legC (s : Schedule) (f : Flow) (r : List Int) (i : Nat) : List Cell := s.2.2.1.filter (keeps f.1 (node r (i - 1), node r i, 0, ()))
def legN (n : Network) (r : List Int) (more : Int) (i : Nat) : Nat := (lossOf n (node r (i - 1)) (node r i) + more + 1).toNat
theorem node_at {r : List Int} {i : Nat} (h : i < r.length) : r[i]? = some (node r i) := by
  unfold node
  rw [List.getElem?_eq_getElem h]; rfl
theorem loss_of {n : Network} (hn : NetOk n) {a b : Int} {i : Nat} {l : Link} (hi : n.2.2.2.2.1[i]? = some l) (h1 : l.1 = a) (h2 : l.2.1 = b) : lossOf n a b = l.2.2.1 ∧ 0 ≤ l.2.2.1 ∧ l.2.2.1 ≤ 7 := by
  constructor
  · unfold lossOf
    cases e : n.2.2.2.2.1.find? (fun l => l.1 == a && l.2.1 == b) with
    | none =>
      have := List.find?_eq_none.1 e l (List.mem_of_getElem? hi)
      simp [h1, h2] at this
    | some x =>
      have hx := List.find?_some e
      simp only [Bool.and_eq_true, beq_iff_eq] at hx
      obtain ⟨j, hj⟩ := List.mem_iff_getElem?.1 (List.mem_of_find?_eq_some e)
      have u : (i : Int) = (j : Int) := FindOk.unique hn (.inr ⟨i, l, rfl, hi, h1, h2⟩) (.inr ⟨j, x, rfl, hj, hx.1, hx.2⟩)
      have : i = j := by omega
      subst this
      rw [hi] at hj
      cases hj
      rfl
  · have hl : i < n.2.2.2.2.2.1.length := by rw [hn.margin]; exact (List.getElem?_eq_some_iff.1 hi).1
    exact (hn.link i l _ hi (List.getElem?_eq_getElem hl)).loss
theorem leg_ok {k : Nat} (hk : Fuel k) {n : Network} (hf : NetFit n) {s : Schedule} {f : Flow} {r : List Int} (ha : AllOk n s f r) {i : Nat} (h1 : 1 ≤ i) (h2 : i < r.length) :
    ∃ (v : Int) (l : Link), network_Index k n (node r (i - 1)) (node r i) = some v ∧ ref31_Find k n (node r (i - 1)) (node r i) = some v ∧ ix n.2.2.2.2.1 v = some l ∧ l.1 = node r (i - 1) ∧ l.2.1 = node r i ∧ l.2.2.1 = lossOf n (node r (i - 1)) (node r i) ∧ 0 ≤ l.2.2.1 ∧ l.2.2.1 ≤ 7 := by
  have hg : GoodL n (node r (i - 1)) (node r i) := Classical.byContradiction fun hb =>
    ha.route.hops (i - 1) (by omega) ⟨_, _, node_at (by omega), by rw [show i - 1 + 1 = i by omega]; exact node_at h2, hb⟩
  obtain ⟨j, _, _, _, g1, _⟩ := hg
  obtain ⟨v, v1, v2⟩ := Index_eq hk hf ha.net (node r (i - 1)) (node r i)
  obtain ⟨u, u1, u2⟩ := ref31_Find_eq hk ha.net.links (node r (i - 1)) (node r i)
  have e1 := FindOk.unique ha.net v2 g1
  have e2 := FindOk.unique ha.net u2 g1
  obtain ⟨q, l, q1, q2, q3, q4⟩ := find_nat g1 (by omega)
  have e3 : j = q := by omega
  subst e3
  obtain ⟨o1, o2, o3⟩ := loss_of ha.net q2 q3 q4
  exact ⟨(j : Int), l, by rw [v1, e1], by rw [u1, e2], by rw [ix_nat]; exact q2, q3, q4, o1.symm, o2, o3⟩
/-- The slots that count on the links from one on, and whether there are enough. -/
def runS (C : Nat → List Cell) (N : Nat → Nat) (L fin : Int) : Nat → Nat → Int → List Int × Bool
  | 0, _, _ => ([], true)
  | m + 1, i, a =>
    if (hopS (C i) L (fin - a).toNat a (N i)).2 = 0 then
      ((hopS (C i) L (fin - a).toNat a (N i)).1 ++ (runS C N L fin m (i + 1) (lastOr a (hopS (C i) L (fin - a).toNat a (N i)).1)).1,
        (runS C N L fin m (i + 1) (lastOr a (hopS (C i) L (fin - a).toNat a (N i)).1)).2)
    else ((hopS (C i) L (fin - a).toNat a (N i)).1, false)
def needS (N : Nat → Nat) : Nat → Nat → Nat
  | 0, _ => 0
  | m + 1, i => N i + needS N m (i + 1)
theorem runS_len (C : Nat → List Cell) (N : Nat → Nat) (L fin : Int) : ∀ (m i : Nat) (a : Int),
    ((runS C N L fin m i a).2 = true → (runS C N L fin m i a).1.length = needS N m i) ∧ ((runS C N L fin m i a).2 = false → (runS C N L fin m i a).1.length < needS N m i)
  | 0, _, _ => by simp [runS, needS]
  | m + 1, i, a => by
    have h := hopS_len (C i) L (fin - a).toNat a (N i)
    unfold runS needS
    by_cases e : (hopS (C i) L (fin - a).toNat a (N i)).2 = 0
    · rw [if_pos e]
      obtain ⟨h1, h2⟩ := runS_len C N L fin m (i + 1) (lastOr a (hopS (C i) L (fin - a).toNat a (N i)).1)
      simp only [List.length_append]
      exact ⟨fun q => by have := h1 q; omega, fun q => by have := h2 q; omega⟩
    · rw [if_neg e]
      exact ⟨fun q => (by cases q), fun _ => by show (hopS (C i) L (fin - a).toNat a (N i)).1.length < _; omega⟩
theorem hop_last {C : List Cell} {L fin a : Int} {N : Nat} (ha : a ≤ fin) : a ≤ lastOr a (hopS C L (fin - a).toNat a N).1 ∧ lastOr a (hopS C L (fin - a).toNat a N).1 ≤ fin :=
  lastOr_le ⟨Int.le_refl _, ha⟩ fun x hx => by
    have := hopS_mem C L (fin - a).toNat a N x hx
    omega
theorem runS_mem (C : Nat → List Cell) (N : Nat → Nat) (L fin : Int) : ∀ (m i : Nat) (a : Int), a ≤ fin → ∀ x ∈ (runS C N L fin m i a).1, a ≤ x ∧ x < fin
  | 0, _, _, _ => by simp [runS]
  | m + 1, i, a, ha => by
    intro x hx
    have h := hopS_mem (C i) L (fin - a).toNat a (N i)
    have hl := hop_last (C := C i) (L := L) (N := N i) ha
    unfold runS at hx
    by_cases e : (hopS (C i) L (fin - a).toNat a (N i)).2 = 0
    · rw [if_pos e] at hx
      rcases List.mem_append.1 hx with hx | hx
      · have := h x hx; omega
      · have := runS_mem C N L fin m (i + 1) _ hl.2 x hx
        omega
    · rw [if_neg e] at hx
      have := h x hx; omega
theorem needS_le {N : Nat → Nat} {b : Nat} : ∀ (m i : Nat), (∀ j, i ≤ j → j < i + m → N j ≤ b) → needS N m i ≤ m * b
  | 0, _, _ => by simp [needS]
  | m + 1, i, h => by
    have h1 := h i (by omega) (by omega)
    have h2 := needS_le (N := N) (b := b) m (i + 1) (fun j a c => h j (by omega) (by omega))
    unfold needS
    rw [Nat.succ_mul]
    omega
theorem legN_eq {n : Network} {r : List Int} {more : Int} {i : Nat} {x : Int} (hm : 0 ≤ more ∧ more ≤ 80) (h : x = lossOf n (node r (i - 1)) (node r i)) (h0 : 0 ≤ x ∧ x ≤ 7) : ((legN n r more i : Nat) : Int) = x + more + 1 ∧ 1 ≤ legN n r more i ∧ legN n r more i ≤ 90 := by
  unfold legN; rw [← h]; omega
theorem legN_le {k : Nat} (hk : Fuel k) {n : Network} (hf : NetFit n) {s : Schedule} {f : Flow} {r : List Int} (ha : AllOk n s f r) {more : Int} (hm : 0 ≤ more ∧ more ≤ 80) {i : Nat} (h1 : 1 ≤ i) (h2 : i < r.length) : 1 ≤ legN n r more i ∧ legN n r more i ≤ 90 := by
  obtain ⟨v, l, _, _, _, _, _, q, q0⟩ := leg_ok hk hf ha h1 h2
  exact (legN_eq hm q q0).2
theorem needS_small {k : Nat} (hk : Fuel k) {n : Network} (hf : NetFit n) {s : Schedule} {f : Flow} {r : List Int} (ha : AllOk n s f r) {more : Int} (hm : 0 ≤ more ∧ more ≤ 80) {m i : Nat} (h1 : 1 ≤ i) (h2 : i + m = r.length) : needS (legN n r more) m i ≤ 810 := by
  have := needS_le (N := legN n r more) (b := 90) m i (fun j a c => (legN_le hk hf ha hm (by omega) (by omega)).2)
  have := ha.route.len.2
  omega
variable {n : Network} {s : Schedule} {f : Flow} {r : List Int} {more : Int}
theorem mk0 : (mkWay n s f r more).1 = n.1 := rfl
theorem mk1 : (mkWay n s f r more).2.1 = n.2.1 := rfl
theorem mk2 : (mkWay n s f r more).2.2.1 = n.2.2.1 := rfl
theorem mk3 : (mkWay n s f r more).2.2.2.1 = n.2.2.2.1 := rfl
theorem mk4 : (mkWay n s f r more).2.2.2.2.1 = n.2.2.2.2.1 := rfl
theorem mk5 : (mkWay n s f r more).2.2.2.2.2.1 = n.2.2.2.2.2.1 := rfl
theorem mk6 : (mkWay n s f r more).2.2.2.2.2.2.1 = s.1 := rfl
theorem mk7 : (mkWay n s f r more).2.2.2.2.2.2.2.1 = s.2.1 := rfl
theorem mk8 : (mkWay n s f r more).2.2.2.2.2.2.2.2.1 = s.2.2.1 := rfl
theorem mk9 : (mkWay n s f r more).2.2.2.2.2.2.2.2.2.1 = f.1 := rfl
theorem mk10 : (mkWay n s f r more).2.2.2.2.2.2.2.2.2.2.1 = f.2.1 := rfl
theorem mk11 : (mkWay n s f r more).2.2.2.2.2.2.2.2.2.2.2.1 = f.2.2.1 := rfl
theorem mk12 : (mkWay n s f r more).2.2.2.2.2.2.2.2.2.2.2.2.1 = f.2.2.2.1 := rfl
theorem mk13 : (mkWay n s f r more).2.2.2.2.2.2.2.2.2.2.2.2.2.1 = f.2.2.2.2.1 := rfl
theorem mk14 : (mkWay n s f r more).2.2.2.2.2.2.2.2.2.2.2.2.2.2.1 = f.2.2.2.2.2.1 := rfl
theorem mk15 : (mkWay n s f r more).2.2.2.2.2.2.2.2.2.2.2.2.2.2.2.1 = r := rfl
theorem mk16 : (mkWay n s f r more).2.2.2.2.2.2.2.2.2.2.2.2.2.2.2.2.1 = more := rfl
theorem eta_net (n : Network) : (n.1, n.2.1, n.2.2.1, n.2.2.2.1, n.2.2.2.2.1, n.2.2.2.2.2.1, ()) = n := rfl
theorem needed_loop {k : Nat} (hk : Fuel k) (hf : NetFit n) (ha : AllOk n s f r) (hm : 0 ≤ more ∧ more ≤ 80) {z : Int} {W : Way} :
    ∀ (m i k' acc : Nat), i + m = r.length → 1 ≤ i → m < k' → acc + needS (legN n r more) m i ≤ 100000 →
      bound_way_needed_l0 k k' (mkWay n s f r more, (i : Int), z, (W, ()), (acc : Int), ()) = some ((acc + needS (legN n r more) m i : Nat) : Int)
  | 0, i, k', acc, hi, h1, hk', hs => by
    obtain ⟨k', rfl⟩ : ∃ q, k' = q + 1 := ⟨k' - 1, by omega⟩
    unfold bound_way_needed_l0
    rw [loopK_succ]
    rw [tst_neg (by simp only [ln, mk15]; omega)]
    simp [needS]
  | m + 1, i, k', acc, hi, h1, hk', hs => by
    obtain ⟨k', rfl⟩ : ∃ q, k' = q + 1 := ⟨k' - 1, by omega⟩
    have hr := ha.route.len.2
    obtain ⟨v, l, l1, l2, l3, l4, l5, l6, l7⟩ := leg_ok hk hf ha (i := i) h1 (by omega)
    obtain ⟨n1, n2, n3⟩ := legN_eq (r := r) (i := i) (n := n) hm l6 l7
    have e : acc + needS (legN n r more) (m + 1) i = acc + legN n r more i + needS (legN n r more) m (i + 1) := by
      show acc + (legN n r more i + needS (legN n r more) m (i + 1)) = _
      omega
    rw [e] at hs ⊢
    refine Eq.trans ?_ (needed_loop (z := z) (W := W) hk hf ha hm m (i + 1) k' (acc + legN n r more i) (by omega) (by omega) (by omega) hs)
    unfold bound_way_needed_l0
    rw [loopK_succ]
    generalize loopK _ k' = rec
    have hw : w64 ((i : Int) - 1) = ((i - 1 : Nat) : Int) := by rw [w64_of ⟨by omega, by omega⟩]; omega
    rw [tst_pos (by simp only [ln, mk15]; omega)]
    simp only [mk0, mk1, mk2, mk3, mk4, mk5, mk15, mk16, eta_net]
    have hv : w64 ((acc : Int) + w64 (w64 (l.2.2.1 + more) + 1)) = ((acc + legN n r more i : Nat) : Int) := by
      rw [w64_of (n := l.2.2.1 + more) ⟨by omega, by omega⟩, w64_of (n := l.2.2.1 + more + 1) ⟨by omega, by omega⟩, w64_of ⟨by omega, by omega⟩]
      omega
    simp only [hw, ix_nat, node_at (show i - 1 < r.length by omega), node_at (show i < r.length by omega), obind_some, l1, l3, w64_succ (show i < 9223372036854775807 by omega), hv]
theorem needed_eq {k : Nat} (hk : Fuel k) (hf : NetFit n) (ha : AllOk n s f r) (hm : 0 ≤ more ∧ more ≤ 80) :
    bound_way_needed k (mkWay n s f r more) = some ((needS (legN n r more) (r.length - 1) 1 : Nat) : Int) := by
  have hr := ha.route.len
  have hs := needS_small hk hf ha hm (m := r.length - 1) (i := 1) (by omega) (by omega)
  have := needed_loop (z := 0) (W := mkWay n s f r more) hk hf ha hm (r.length - 1) 1 k 0 (by omega) (by omega) (by unfold Fuel at hk; omega) (by omega)
  rw [Nat.zero_add] at this
  exact this
theorem rel_l1' {k : Nat} (hk : Fuel k) {w : Way} {cs : List Cell} {rel fin : Int} (h0 : w.2.2.2.2.2.2.1 ≠ 0) (hf : -1000000000 ≤ fin ∧ fin ≤ 1000000000) (hc : cs.length ≤ 1000) {A D E E' F W : Way} {B G : Int} {l : Link} {H : List Int} {I : Bool} {J : Int}
    {κ1 κ3 : (Way × Int × (List Cell) × Int × (Way × Unit) × Way × Int × Link × Way × (Way × Unit) × Way × (Int × Unit) × Int × (List Int) × Bool × ((Int × Unit) × Way × Unit) × (List Int) × Int × Int × Unit) → Option (Int × (List Int) × Bool × Unit)}
    {left : Nat} {a : Int} {out : List Int} {X : Option (Int × (List Int) × Bool × Unit)} (ha : a ≤ fin) (hb : 0 ≤ a) (hl : left ≤ 1000) (ho : out.length + left ≤ 100000)
    (h3 : (hopS cs w.2.2.2.2.2.2.1 (fin - a).toNat a left).2 = 0 → ∀ slot' : Int, κ3 (w, 0, cs, slot', (E, ()), A, B, l, D, (E', ()), F, (rel, ()), G, H, I, ((J, ()), W, ()), out ++ (hopS cs w.2.2.2.2.2.2.1 (fin - a).toNat a left).1.map (fun v => w64 (v - rel)), lastOr a (hopS cs w.2.2.2.2.2.2.1 (fin - a).toNat a left).1, fin, ()) = X)
    (h1 : (hopS cs w.2.2.2.2.2.2.1 (fin - a).toNat a left).2 ≠ 0 → ∀ left' slot' a' : Int, κ1 (w, left', cs, slot', (E, ()), A, B, l, D, (E', ()), F, (rel, ()), G, H, I, ((J, ()), W, ()), out ++ (hopS cs w.2.2.2.2.2.2.1 (fin - a).toNat a left).1.map (fun v => w64 (v - rel)), a', fin, ()) = X) :
    bound_way_release_l1 k κ1 κ3 k (w, (left : Int), cs, a, (E, ()), A, B, l, D, (E', ()), F, (rel, ()), G, H, I, ((J, ()), W, ()), out, a, fin, ()) = X := by
  obtain ⟨slot', q⟩ := rel_l1 (κ1 := κ1) (κ3 := κ3) (w := w) (cs := cs) (E := E) (W := W) (A := A) (B := B) (l := l) (D := D) (E' := E') (F := F) (G := G) (H := H) (I := I) (J := J) (rel := rel) (fin := fin) hk h0 hf hc (fin - a).toNat k left a out a (by omega) (by omega) (by unfold Fuel at hk; omega) hl ho
  rw [q]
  by_cases h : (hopS cs w.2.2.2.2.2.2.1 (fin - a).toNat a left).2 = 0
  · rw [ite_pos_app h, h]; exact h3 h slot'
  · rw [ite_neg_app h]; exact h1 h _ _ _
theorem release_loop {k : Nat} (hk : Fuel k) (hf : NetFit n) (ha : AllOk n s f r) (hm : 0 ≤ more ∧ more ≤ 80) {rel fin : Int} (hfin : fin ≤ 10000000) {G : Int} {H : List Int} {I : Bool}
    {κ0 : (Way × Int × (List Cell) × Int × (Way × Unit) × Way × Int × Link × Way × (Way × Unit) × Way × (Int × Unit) × Int × (List Int) × Bool × ((Int × Unit) × Way × Unit) × (List Int) × Int × Int × Unit) → Option (Int × (List Int) × Bool × Unit)}
    {κ4 : (Way × Int × Way × (Way × Unit) × Way × (Int × Unit) × Int × (List Int) × Bool × ((Int × Unit) × Way × Unit) × (List Int) × Int × Int × Unit) → Option (Int × (List Int) × Bool × Unit)}
    {K : Way → List Int → Option (Int × (List Int) × Bool × Unit)} (e0 : ∀ t8, κ0 t8 = K t8.2.2.2.2.2.2.2.2.2.2.1 t8.2.2.2.2.2.2.2.2.2.2.2.2.2.2.2.2.1) (e4 : ∀ t1, κ4 t1 = K t1.2.2.2.2.1 t1.2.2.2.2.2.2.2.2.2.2.1) :
    ∀ (m i k' : Nat) (out : List Int) (a : Int), i + m = r.length → 1 ≤ i → m < k' → 0 ≤ a → a ≤ fin → out.length + needS (legN n r more) m i ≤ 10000 →
      bound_way_release_l0 k κ0 κ4 k' (mkWay n s f r more, (i : Int), mkWay n s f r more, (mkWay n s f r more, ()), mkWay n s f r more, (rel, ()), G, H, I, ((rel, ()), mkWay n s f r more, ()), out, a, fin, ()) =
      K (mkWay n s f r more) (out ++ (runS (legC s f r) (legN n r more) s.1 fin m i a).1.map (fun v => w64 (v - rel)))
  | 0, i, k', out, a, hi, h1, hk', h0a, hap, hs => by
    obtain ⟨k', rfl⟩ : ∃ q, k' = q + 1 := ⟨k' - 1, by omega⟩
    unfold bound_way_release_l0
    rw [loopK_succ]
    rw [tst_neg (by simp only [ln, mk15]; omega), e4]
    simp [runS]
  | m + 1, i, k', out, a, hi, h1, hk', h0a, hap, hs => by
    obtain ⟨k', rfl⟩ : ∃ q, k' = q + 1 := ⟨k' - 1, by omega⟩
    have hr := ha.route.len.2
    obtain ⟨v, l, l1, l2, l3, l4, l5, l6, l7⟩ := leg_ok hk hf ha (i := i) h1 (by omega)
    obtain ⟨n1, n2, n3⟩ := legN_eq (r := r) (i := i) (n := n) hm l6 l7
    have hneed : needS (legN n r more) (m + 1) i = legN n r more i + needS (legN n r more) m (i + 1) := rfl
    have hlen := hopS_len (legC s f r i) s.1 (fin - a).toNat a (legN n r more i)
    have hl := hop_last (C := legC s f r i) (L := s.1) (N := legN n r more i) hap
    have h512 := ha.sch.few
    have ih := release_loop (κ0 := κ0) (κ4 := κ4) (rel := rel) (G := G) (H := H) (I := I) hk hf ha hm hfin e0 e4 m (i + 1) k' (out ++ (hopS (legC s f r i) s.1 (fin - a).toNat a (legN n r more i)).1.map (fun v => w64 (v - rel))) (lastOr a (hopS (legC s f r i) s.1 (fin - a).toNat a (legN n r more i)).1) (by omega) (by omega) (by omega) (by omega) (by omega) (by simp only [List.length_append, List.length_map]; omega)
    have hw : w64 ((i : Int) - 1) = ((i - 1 : Nat) : Int) := by rw [w64_of ⟨by omega, by omega⟩]; omega
    have hleft : w64 (w64 (l.2.2.1 + more) + 1) = (legN n r more i : Int) := by
      rw [w64_of (n := l.2.2.1 + more) ⟨by omega, by omega⟩, w64_of ⟨by omega, by omega⟩, n1]
    have hcell : bound_way_cells k (mkWay n s f r more) (l.1, l.2.1, w64 (l.2.2.1 + more), ()) = some (legC s f r i) := by
      rw [cells_eq hk _ _ (by simp only [mk8]; omega)]
      unfold legC
      rw [← l4, ← l5]
      rfl
    have hcl : (legC s f r i).length ≤ 1000 := by
      unfold legC
      have := List.length_filter_le (keeps f.1 (node r (i - 1), node r i, 0, ())) s.2.2.1
      omega
    unfold runS
    by_cases h : (hopS (legC s f r i) s.1 (fin - a).toNat a (legN n r more i)).2 = 0
    · rw [if_pos h]
      simp only [List.map_append]
      rw [← List.append_assoc]
      refine Eq.trans ?_ ih
      unfold bound_way_release_l0
      rw [loopK_succ]
      generalize loopK _ k' = rec
      rw [tst_pos (by simp only [ln, mk15]; omega)]
      simp only [mk0, mk1, mk2, mk3, mk4, mk5, mk15, mk16, eta_net]
      simp only [hw, ix_nat, node_at (show i - 1 < r.length by omega), node_at (show i < r.length by omega), obind_some, l1, l3, hcell, hleft]
      refine rel_l1' hk (by simp only [mk6]; have := ha.sch.len; omega) ⟨by omega, by omega⟩ hcl hap h0a (by omega) (by omega) (fun _ slot' => ?_) (fun q => absurd h q)
      simp only [mk6, w64_succ (show i < 9223372036854775807 by omega)]
    · rw [if_neg h]
      unfold bound_way_release_l0
      rw [loopK_succ]
      generalize loopK _ k' = rec
      rw [tst_pos (by simp only [ln, mk15]; omega)]
      simp only [mk0, mk1, mk2, mk3, mk4, mk5, mk15, mk16, eta_net]
      simp only [hw, ix_nat, node_at (show i - 1 < r.length by omega), node_at (show i < r.length by omega), obind_some, l1, l3, hcell, hleft]
      refine rel_l1' hk (by simp only [mk6]; have := ha.sch.len; omega) ⟨by omega, by omega⟩ hcl hap h0a (by omega) (by omega) (fun q => absurd q h) (fun _ left' slot' a' => ?_)
      rw [e0]
      simp only [mk6]
/-- The last number of a list. -/
def lastI (xs : List Int) : Int := xs.getLast?.getD 0
theorem ix_last {xs : List Int} (h : xs ≠ []) (hl : xs.length ≤ 100000) : ix xs (w64 (ln xs - 1)) = some (lastI xs) := by
  have h1 : 0 < xs.length := List.length_pos_iff.2 h
  have e : w64 (ln xs - 1) = ((xs.length - 1 : Nat) : Int) := by
    unfold ln
    rw [w64_of ⟨by omega, by omega⟩]; omega
  rw [e, ix_nat, lastI, List.getLast?_eq_getElem?, List.getElem?_eq_getElem (by omega)]
  rfl
theorem lastI_map {xs : List Int} (h : xs ≠ []) (g : Int → Int) : lastI (xs.map g) = g (lastI xs) := by
  unfold lastI
  rw [List.getLast?_map]
  cases e : xs.getLast? with
  | none => exact absurd (List.getLast?_eq_none_iff.1 e) h
  | some x => rfl
theorem lastOr_last {xs : List Int} (h : xs ≠ []) (a : Int) : lastOr a xs = lastI xs + 1 := by
  unfold lastOr lastI
  cases e : xs.getLast? with
  | none => exact absurd (List.getLast?_eq_none_iff.1 e) h
  | some x => rfl
theorem lastI_mem {xs : List Int} (h : xs ≠ []) : lastI xs ∈ xs := by
  unfold lastI
  cases e : xs.getLast? with
  | none => exact absurd (List.getLast?_eq_none_iff.1 e) h
  | some x => exact List.mem_of_getLast? e
/-- What a release comes to: the latency, and the slots that count, relative to it. -/
def relP (S : List Int × Bool) (rel : Int) : Int × (List Int) × Bool × Unit := bif S.2 then (w64 (w64 (lastI S.1 - rel) + 1), S.1.map (fun v => w64 (v - rel)), true, ()) else (0, [], false, ())
/-- The slots of a release. -/
def slotsS (n : Network) (s : Schedule) (f : Flow) (r : List Int) (more rel : Int) : List Int × Bool := runS (legC s f r) (legN n r more) s.1 (rel + f.2.2.2.1) (r.length - 1) 1 rel
theorem slotsS_len {k : Nat} (hk : Fuel k) (hf : NetFit n) (ha : AllOk n s f r) (hm : 0 ≤ more ∧ more ≤ 80) (rel : Int) : (slotsS n s f r more rel).1.length ≤ 810 ∧ ((slotsS n s f r more rel).2 = true → (slotsS n s f r more rel).1 ≠ [] ∧ (slotsS n s f r more rel).1.length = needS (legN n r more) (r.length - 1) 1) ∧ ((slotsS n s f r more rel).2 = false → (slotsS n s f r more rel).1.length < needS (legN n r more) (r.length - 1) 1) := by
  have hr := ha.route.len
  obtain ⟨h1, h2⟩ := runS_len (legC s f r) (legN n r more) s.1 (rel + f.2.2.2.1) (r.length - 1) 1 rel
  have hs := needS_small hk hf ha hm (m := r.length - 1) (i := 1) (by omega) (by omega)
  have hp : 0 < needS (legN n r more) (r.length - 1) 1 := by
    obtain ⟨q, hq⟩ : ∃ q, r.length - 1 = q + 1 := ⟨r.length - 2, by omega⟩
    rw [hq]
    have := (legN_le hk hf ha hm (i := 1) (by omega) (by omega)).1
    unfold needS
    omega
  unfold slotsS
  refine ⟨?_, fun q => ⟨fun e => ?_, h1 q⟩, h2⟩
  · cases e : (runS (legC s f r) (legN n r more) s.1 (rel + f.2.2.2.1) (r.length - 1) 1 rel).2 with
    | true => have := h1 e; omega
    | false => have := h2 e; omega
  · have := h1 q
    rw [e] at this
    simp at this
    omega
theorem release_eq {k : Nat} (hk : Fuel k) (hf : NetFit n) (ha : AllOk n s f r) (hm : 0 ≤ more ∧ more ≤ 80) {rel : Int} (h0 : 0 ≤ rel) (h1 : rel ≤ 2000000) : bound_way_release k (mkWay n s f r more) rel = some (relP (slotsS n s f r more rel) rel) := by
  have hr := ha.route.len
  have hp := ha.flow.period
  have hs := needS_small hk hf ha hm (m := r.length - 1) (i := 1) (by omega) (by omega)
  obtain ⟨g1, g2, g3⟩ := slotsS_len hk hf ha hm rel
  unfold bound_way_release
  have he : w64 (rel + (mkWay n s f r more).2.2.2.2.2.2.2.2.2.2.2.2.1) = rel + f.2.2.2.1 := w64_of ⟨by simp only [mk12]; omega, by simp only [mk12]; omega⟩
  rw [he]
  refine (release_loop (K := fun w out => obind (bound_way_needed k w) fun v9 =>
    tst (decide ((ln out) < v9))
      (some (0, [], false, ()))
      (obind (ix out (w64 ((ln out) - 1))) fun v10 =>
      some (w64 (v10 + 1), out, true, ()))) hk hf ha hm (by omega) (fun _ => rfl) (fun _ => rfl) (r.length - 1) 1 k [] rel (by omega) (by omega) (by unfold Fuel at hk; omega) h0 (by omega) (by simp; omega)).trans ?_
  show obind (bound_way_needed k (mkWay n s f r more)) _ = _
  rw [needed_eq hk hf ha hm, obind_some, List.nil_append]
  rw [show runS (legC s f r) (legN n r more) s.1 (rel + f.2.2.2.1) (r.length - 1) 1 rel = slotsS n s f r more rel from rfl]
  unfold relP
  cases e : (slotsS n s f r more rel).2 with
  | true =>
    obtain ⟨q1, q2⟩ := g2 e
    rw [tst_neg (by simp only [ln, List.length_map]; omega), ix_last (by simpa using q1) (by rw [List.length_map]; omega), obind_some, lastI_map q1]
    rfl
  | false =>
    have := g3 e
    rw [tst_pos (by simp only [ln, List.length_map]; omega)]
    rfl
theorem fit8_app {xs ys : List Int} (h : xs.length + ys.length ≤ 1000000) : fit 8 xs ys = true := by
  show decide ((xs.length + ys.length) * 8 ≤ 140737488355328) = true
  simp; omega
theorem slots_loop {k : Nat} (hk : Fuel k) (hf : NetFit n) (ha : AllOk n s f r) (hm : 0 ≤ more ∧ more ≤ 80) {rel : Int} (hrel : 0 ≤ rel ∧ rel ≤ 2000000) :
    ∀ (m i k' : Nat) (out : List Int) (a : Int), i + m = r.length → 1 ≤ i → m < k' → 0 ≤ a → a ≤ rel + f.2.2.2.1 → out.length + needS (legN n r more) m i ≤ 10000 →
      ref37_Slots_l0 k k' (r, rel, more, n, s, f, out, a, (i : Int), ()) = some (bif (runS (legC s f r) (legN n r more) s.1 (rel + f.2.2.2.1) m i a).2 then (out ++ (runS (legC s f r) (legN n r more) s.1 (rel + f.2.2.2.1) m i a).1, true, ()) else ([], false, ()))
  | 0, i, k', out, a, hi, h1, hk', h0a, hap, hs => by
    obtain ⟨k', rfl⟩ : ∃ q, k' = q + 1 := ⟨k' - 1, by omega⟩
    unfold ref37_Slots_l0
    rw [loopK_succ]
    rw [tst_neg (by simp only [ln]; omega)]
    simp [runS]
  | m + 1, i, k', out, a, hi, h1, hk', h0a, hap, hs => by
    obtain ⟨k', rfl⟩ : ∃ q, k' = q + 1 := ⟨k' - 1, by omega⟩
    have hr := ha.route.len.2
    have hp := ha.flow.period
    obtain ⟨v, l, l1, l2, l3, l4, l5, l6, l7⟩ := leg_ok hk hf ha (i := i) h1 (by omega)
    obtain ⟨n1, n2, n3⟩ := legN_eq (r := r) (i := i) (n := n) hm l6 l7
    have hneed : needS (legN n r more) (m + 1) i = legN n r more i + needS (legN n r more) m (i + 1) := rfl
    have hlen := hopS_len (legC s f r i) s.1 (rel + f.2.2.2.1 - a).toNat a (legN n r more i)
    have hl := hop_last (C := legC s f r i) (L := s.1) (N := legN n r more i) hap
    have h512 := ha.sch.few
    have hw : w64 ((i : Int) - 1) = ((i - 1 : Nat) : Int) := by rw [w64_of ⟨by omega, by omega⟩]; omega
    have hloss : ref33_Loss k n (node r (i - 1)) (node r i) = some l.2.2.1 := by
      unfold ref33_Loss
      rw [l2, obind_some, l3, obind_some]
    have hleft : w64 (w64 (l.2.2.1 + 1) + more) = (legN n r more i : Int) := by
      rw [w64_of (n := l.2.2.1 + 1) ⟨by omega, by omega⟩, w64_of ⟨by omega, by omega⟩, n1]; omega
    have hlast : w64 (w64 (rel + f.2.2.2.1) - 1) = rel + f.2.2.2.1 - 1 := by
      rw [w64_of (n := rel + f.2.2.2.1) ⟨by omega, by omega⟩, w64_of ⟨by omega, by omega⟩]
    have hhop : ref37_hop k s f (node r (i - 1)) (node r i) (legN n r more i) a (rel + f.2.2.2.1 - 1) = some ((hopS (legC s f r i) s.1 (rel + f.2.2.2.1 - a).toNat a (legN n r more i)).1, decide ((hopS (legC s f r i) s.1 (rel + f.2.2.2.1 - a).toNat a (legN n r more i)).2 = 0), ()) := by
      have := hop_eq (k := k) (s := s) (f := f) (p := node r (i - 1)) (q := node r i) (last := rel + f.2.2.2.1 - 1) (a := a) (need := legN n r more i) hk (by have := ha.sch.len; omega) ⟨by omega, by omega⟩ (by omega) (by omega) (by omega)
      rw [show rel + f.2.2.2.1 - 1 + 1 - a = rel + f.2.2.2.1 - a by omega] at this
      exact this
    unfold runS
    by_cases h : (hopS (legC s f r i) s.1 (rel + f.2.2.2.1 - a).toNat a (legN n r more i)).2 = 0
    · rw [if_pos h]
      have hne : (hopS (legC s f r i) s.1 (rel + f.2.2.2.1 - a).toNat a (legN n r more i)).1 ≠ [] := fun q => by rw [q] at hlen; simp at hlen; omega
      have hmem := hopS_mem (legC s f r i) s.1 (rel + f.2.2.2.1 - a).toNat a (legN n r more i) _ (lastI_mem hne)
      have ih := slots_loop hk hf ha hm hrel m (i + 1) k' (out ++ (hopS (legC s f r i) s.1 (rel + f.2.2.2.1 - a).toNat a (legN n r more i)).1) (lastOr a (hopS (legC s f r i) s.1 (rel + f.2.2.2.1 - a).toNat a (legN n r more i)).1) (by omega) (by omega) (by omega) (by omega) (by omega) (by simp only [List.length_append]; omega)
      rw [List.append_assoc] at ih
      refine Eq.trans ?_ ih
      unfold ref37_Slots_l0
      rw [loopK_succ]
      generalize loopK _ k' = rec
      rw [tst_pos (by simp only [ln]; omega)]
      simp only [hw, ix_nat, node_at (show i - 1 < r.length by omega), node_at (show i < r.length by omega), obind_some, hloss, hleft, hlast, hhop, h, decide_true, tst_not, tst_true, fit8_app (show out.length + (hopS (legC s f r i) s.1 (rel + f.2.2.2.1 - a).toNat a (legN n r more i)).1.length ≤ 1000000 by omega), ix_last hne (by omega), w64_succ (show i < 9223372036854775807 by omega), lastOr_last hne, w64_of (show In64 (lastI (hopS (legC s f r i) s.1 (rel + f.2.2.2.1 - a).toNat a (legN n r more i)).1 + 1) from ⟨by omega, by omega⟩)]
    · rw [if_neg h]
      unfold ref37_Slots_l0
      rw [loopK_succ]
      generalize loopK _ k' = rec
      rw [tst_pos (by simp only [ln]; omega)]
      simp only [hw, ix_nat, node_at (show i - 1 < r.length by omega), node_at (show i < r.length by omega), obind_some, hloss, hleft, hlast, hhop, h, decide_false, tst_not, tst_false, cond_false]
theorem slots_eq {k : Nat} (hk : Fuel k) (hf : NetFit n) (ha : AllOk n s f r) (hm : 0 ≤ more ∧ more ≤ 80) {rel : Int} (h0 : 0 ≤ rel) (h1 : rel ≤ 2000000) : ref37_Slots k n s f r rel more = some (bif (slotsS n s f r more rel).2 then ((slotsS n s f r more rel).1, true, ()) else ([], false, ())) := by
  have hr := ha.route.len
  have hp := ha.flow.period
  have hs := needS_small hk hf ha hm (m := r.length - 1) (i := 1) (by omega) (by omega)
  unfold ref37_Slots slotsS
  have := slots_loop hk hf ha hm ⟨h0, h1⟩ (r.length - 1) 1 k [] rel (by omega) (by omega) (by unfold Fuel at hk; omega) h0 (by omega) (by simp; omega)
  rw [List.nil_append] at this
  exact this
end Go.Evl.Sh
