/-
  A value semantics for the program's code, part 7: the operations that turn nothing, the rest of them.
  Conditions: none; this text holds definitions and lemmas of their own.
-/
import Derived.Test.YtbcihiehcekheaaDoorEv6
namespace Go.Evl
open Go Go.RowKit
set_option linter.unusedVariables false
set_option linter.unusedSimpArgs false

/-! ### Cells set one behind the other -/
theorem fold_size (off : Nat) : ∀ (l : List (Value × Nat)) (cells : Array Value), (l.foldl (fun cs x => cs.setIfInBounds (off + x.2) x.1) cells).size = cells.size
  | [], _ => rfl
  | x :: l, cells => by rw [List.foldl_cons, fold_size off l]; simp
theorem fold_get (off : Nat) : ∀ (l : List Value) (s : Nat) (cells : Array Value) (k : Nat),
    ((l.zipIdx s).foldl (fun cs x => cs.setIfInBounds (off + x.2) x.1) cells)[k]? = if off + s ≤ k ∧ k < off + s + l.length ∧ k < cells.size then l[k - off - s]? else cells[k]?
  | [], s, cells, k => by simp; intro h1 h2; omega
  | v :: l, s, cells, k => by
    rw [List.zipIdx_cons, List.foldl_cons, fold_get off l (s + 1)]
    simp only [Array.size_setIfInBounds, List.length_cons]
    by_cases h1 : off + (s + 1) ≤ k ∧ k < off + (s + 1) + l.length ∧ k < cells.size
    · rw [if_pos h1, if_pos ⟨by omega, by omega, h1.2.2⟩]
      have : k - off - s = (k - off - (s + 1)) + 1 := by omega
      rw [this, List.getElem?_cons_succ]
    · rw [if_neg h1]
      by_cases h2 : off + s = k
      · subst h2
        by_cases h3 : off + s < cells.size
        · rw [if_pos ⟨by omega, by omega, h3⟩]
          simp [Array.getElem?_setIfInBounds, h3]
        · rw [if_neg (by omega)]
          simp [Array.getElem?_setIfInBounds, h3]
      · rw [if_neg (by omega)]
        simp [Array.getElem?_setIfInBounds, h2]
theorem fold_list (off : Nat) (v cells : Array Value) (h : off + v.size ≤ cells.size) :
    v.zipIdx.foldl (fun cs (c, j) => cs.setIfInBounds (off + j) c) cells = (cells.toList.take off ++ v.toList ++ cells.toList.drop (off + v.size)).toArray := by
  have e : v.zipIdx.foldl (fun cs (c, j) => cs.setIfInBounds (off + j) c) cells = (v.toList.zipIdx 0).foldl (fun cs x => cs.setIfInBounds (off + x.2) x.1) cells := by
    rw [← Array.foldl_toList, Array.toList_zipIdx]
  rw [e]
  apply Array.ext_getElem?
  intro k
  rw [fold_get]
  simp only [Array.length_toList, Nat.add_zero, List.getElem?_toArray, Nat.sub_zero]
  by_cases h1 : off ≤ k ∧ k < off + v.size ∧ k < cells.size
  · rw [if_pos h1, List.append_assoc, List.getElem?_append_right (by simp; omega), List.getElem?_append_left (by simp; omega)]
    simp
    congr 1; omega
  · rw [if_neg h1]
    by_cases h2 : k < off
    · rw [List.append_assoc, List.getElem?_append_left (by simp; omega), List.getElem?_take, if_pos h2]
      simp
    · rw [List.getElem?_append_right (by simp; omega), List.getElem?_drop]
      simp
      congr 1; omega

/-- A literal's parts at the machine, at the contents. -/
theorem fill_run {M : Mem} (place : Nat → Option (Nat × Nat)) : ∀ (ps : List (Nat × Value)) (qs : List (Nat × Nat × V)) (us : List Value) (cs cs' : List V),
    ps.length = qs.length → (∀ (k : Nat) (i : Nat) (u : Value) (off sz : Nat) (v : V), ps[k]? = some (i, u) → qs[k]? = some (off, sz, v) → place i = some (off, sz) ∧ R M v u) →
    RL M cs us → (∀ u ∈ us, single u) → fillV cs qs = some cs' → ∃ us' : List Value, Instr.fill place us.toArray ps = some us'.toArray ∧ RL M cs' us' ∧ ∀ u ∈ us', single u
  | [], [], us, cs, cs', _, _, hr, hs, h => by
    simp [fillV] at h; subst h
    exact ⟨us, rfl, hr, hs⟩
  | (i, u) :: ps, (off, sz, v) :: qs, us, cs, cs', hl, hp, hr, hs, h => by
    obtain ⟨h1, h2⟩ := hp 0 i u off sz v rfl rfl
    have hnt : ∀ vs, v ≠ .tup vs := by
      rintro vs rfl
      simp [fillV] at h
    have h' : (bif (v.cells.length == sz) && Nat.ble (off + sz) cs.length then fillV (cs.take off ++ v.cells ++ cs.drop (off + sz)) qs else none) = some cs' := by
      cases v <;> first | exact h | exact absurd rfl (hnt _)
    obtain ⟨hc, h'⟩ := cond_some h'
    simp only [Bool.and_eq_true, beq_iff_eq, Nat.ble_eq] at hc
    obtain ⟨hcl, hcs⟩ := R_cells h2 hnt
    have hsz : u.cells.size = sz := by
      have := hcl.length
      rw [hc.1] at this
      rw [← this]; simp
    have hul := hr.length
    obtain ⟨us', hf, hr', hs'⟩ := fill_run place ps qs (us.take off ++ u.cells.toList ++ us.drop (off + sz)) _ cs' (by simpa using hl)
      (fun k i' u' off' sz' v' h3 h4 => hp (k + 1) i' u' off' sz' v' (by simpa using h3) (by simpa using h4))
      (((hr.take off).append hcl).append (hr.drop _)) (fun x hx => by
        simp only [List.mem_append] at hx
        rcases hx with (hx | hx) | hx
        · exact hs x (List.mem_of_mem_take hx)
        · exact hcs x hx
        · exact hs x (List.mem_of_mem_drop hx)) h'
    refine ⟨us', ?_, hr', hs'⟩
    unfold Instr.fill
    rw [h1]
    simp only
    rw [if_neg (by simp; omega), fold_list off u.cells us.toArray (by simp; omega)]
    rw [hsz]
    exact hf
  | [], _ :: _, _, _, _, hl, _, _, _, _ => by simp at hl
  | _ :: _, [], _, _, _, hl, _, _, _, _ => by simp at hl

/-! ### Rows laid flat -/
def flat (us : List Value) : List Value := us.flatMap fun u => u.cells.toList
theorem flat_length {sz : Nat} : ∀ {us : List Value}, (∀ u ∈ us, u.cells.size = sz) → (flat us).length = us.length * sz
  | [], _ => by simp [flat]
  | u :: us, h => by
    have := flat_length (us := us) (fun x hx => h x (List.mem_cons_of_mem _ hx))
    have h0 := h u List.mem_cons_self
    simp only [flat, List.flatMap_cons, List.length_append, Array.length_toList, List.length_cons] at this ⊢
    rw [this, h0, Nat.add_mul]; omega
theorem flat_get {sz : Nat} : ∀ {us : List Value}, (∀ u ∈ us, u.cells.size = sz) → ∀ {i : Nat} {u : Value}, us[i]? = some u → ∀ j, j < sz → (flat us)[i * sz + j]? = u.cells[j]?
  | [], _, i, u, hu, _, _ => by simp at hu
  | x :: us, h, i, u, hu, j, hj => by
    have h0 := h x List.mem_cons_self
    cases i with
    | zero =>
      simp at hu; subst hu
      simp only [flat, List.flatMap_cons]
      rw [List.getElem?_append_left (by simp; omega)]
      simp
    | succ i =>
      have ih := flat_get (us := us) (fun y hy => h y (List.mem_cons_of_mem _ hy)) (i := i) (u := u) (by simpa using hu) j hj
      simp only [flat, List.flatMap_cons] at ih ⊢
      rw [List.getElem?_append_right (by simp [h0, Nat.add_mul]; omega)]
      rw [← ih]
      congr 1
      simp [h0, Nat.add_mul]; omega
theorem flat_set {sz : Nat} : ∀ {us : List Value}, (∀ u ∈ us, u.cells.size = sz) → ∀ {i : Nat} {v : Value}, i < us.length → flat (us.set i v) = (flat us).take (i * sz) ++ v.cells.toList ++ (flat us).drop (i * sz + sz)
  | [], _, i, v, hi => by simp at hi
  | x :: us, h, i, v, hi => by
    have h0 := h x List.mem_cons_self
    cases i with
    | zero => simp [flat, ← h0]
    | succ i =>
      have ih := flat_set (us := us) (fun y hy => h y (List.mem_cons_of_mem _ hy)) (i := i) (v := v) (by simpa using hi)
      simp only [flat, List.set_cons_succ, List.flatMap_cons] at ih ⊢
      rw [ih]
      have e1 : (i + 1) * sz = x.cells.toList.length + i * sz := by simp [h0, Nat.add_mul]; omega
      have e2 : (i + 1) * sz + sz = x.cells.toList.length + (i * sz + sz) := by simp [h0, Nat.add_mul]; omega
      rw [e1, List.take_length_add_append, ← e1, e2, List.drop_length_add_append]
      simp
theorem flat_append (us vs : List Value) : flat (us ++ vs) = flat us ++ flat vs := by simp [flat]

/-- A row laid in a new block. -/
theorem laid_new {M : Mem} {b sz : Nat} {us : List Value} (h : ∀ u ∈ us, u.cells.size = sz) (hs : ∀ u ∈ us, ∀ c ∈ u.cells.toList, single c) : Laid (know M b (flat us)) ⟨b, 0, none⟩ sz us := by
  intro i u hu
  have hm := List.mem_of_getElem? hu
  refine ⟨h u hm, hs u hm, fun j hj => ?_⟩
  rw [add_plain, know_new, flat_get h hu j hj]

/-- A slice literal's parts. -/
theorem fillS_run {M : Mem} {sz : Nat} : ∀ (ps : List (Nat × Value)) (qs : List (Nat × V)) (us : List Value) (xs xs' : List V),
    ps.length = qs.length → (∀ (k : Nat) (i j : Nat) (u : Value) (v : V), ps[k]? = some (i, u) → qs[k]? = some (j, v) → i = j ∧ R M v u) →
    RL M xs us → (∀ u ∈ us, u.cells.size = sz) → (∀ u ∈ us, ∀ c ∈ u.cells.toList, single c) → fillS xs sz qs = some xs' →
    ∃ us' : List Value, Instr.fill (fun i => some (i * sz, sz)) (flat us).toArray ps = some (flat us').toArray ∧ RL M xs' us' ∧ (∀ u ∈ us', u.cells.size = sz) ∧ ∀ u ∈ us', ∀ c ∈ u.cells.toList, single c
  | [], [], us, xs, xs', _, _, hr, hz, hs, h => by
    simp [fillS] at h; subst h
    exact ⟨us, rfl, hr, hz, hs⟩
  | (i, u) :: ps, (j, v) :: qs, us, xs, xs', hl, hp, hr, hz, hs, h => by
    obtain ⟨rfl, h2⟩ := hp 0 i j u v rfl rfl
    have hnt : ∀ vs, v ≠ .tup vs := by
      rintro vs rfl
      simp [fillS] at h
    have h' : (bif (v.cells.length == sz) && Nat.blt i xs.length then fillS (xs.set i v) sz qs else none) = some xs' := by
      cases v <;> first | exact h | exact absurd rfl (hnt _)
    obtain ⟨hc, h'⟩ := cond_some h'
    simp only [Bool.and_eq_true, beq_iff_eq, Nat.blt_eq] at hc
    obtain ⟨hcl, hcs⟩ := R_cells h2 hnt
    have hsz : u.cells.size = sz := by
      have := hcl.length
      rw [hc.1] at this
      rw [← this]; simp
    have hul := hr.length
    have hmem : ∀ y ∈ us.set i u, y = u ∨ y ∈ us := fun y hy => (List.mem_or_eq_of_mem_set hy).symm
    obtain ⟨us', hf, hr', hz', hs'⟩ := fillS_run (M := M) (sz := sz) ps qs (us.set i u) (xs.set i v) xs' (by simpa using hl)
      (fun k i' j' u' v' h3 h4 => hp (k + 1) i' j' u' v' (by simpa using h3) (by simpa using h4))
      (RL.of_get (by simp [hul]) (fun k x y hx hy => by
        rw [List.getElem?_set] at hx hy
        by_cases hk : i = k
        · subst hk
          rw [if_pos rfl] at hx hy
          rw [if_pos hc.2] at hx
          rw [if_pos (by omega)] at hy
          cases hx; cases hy; exact h2
        · rw [if_neg hk] at hx hy
          obtain ⟨y', hy', hr⟩ := hr.get hx
          rw [hy] at hy'; cases hy'; exact hr))
      (fun y hy => by rcases hmem y hy with rfl | hy; exact hsz; exact hz y hy)
      (fun y hy => by rcases hmem y hy with rfl | hy; exact hcs; exact hs y hy) h'
    refine ⟨us', ?_, hr', hz', hs'⟩
    unfold Instr.fill
    simp only
    have hfl := flat_length hz
    have hi : i * sz + sz ≤ us.length * sz := by
      have : i + 1 ≤ us.length := by omega
      have := Nat.mul_le_mul_right sz this
      rwa [Nat.add_mul, Nat.one_mul] at this
    have hfz : (flat us).toArray.size = us.length * sz := by rw [← hfl]; simp
    have hno : ¬ (decide (u.cells.size ≠ sz) || decide (i * sz + u.cells.size > (flat us).toArray.size)) = true := by
      rw [hfz, hsz]
      simp
      omega
    rw [if_neg hno, fold_list (i * sz) u.cells (flat us).toArray (by rw [hfz, hsz]; exact hi)]
    simp only [hsz]
    rw [flat_set hz (by omega)] at hf
    exact hf
  | [], _ :: _, _, _, _, hl, _, _, _, _, _ => by simp at hl
  | _ :: _, [], _, _, _, hl, _, _, _, _, _ => by simp at hl

end Go.Evl
