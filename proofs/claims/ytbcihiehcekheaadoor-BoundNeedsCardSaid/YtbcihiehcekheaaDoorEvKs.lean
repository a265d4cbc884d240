/-
  A value semantics for the program's code, part K, sound: what the evaluation that is handed on comes to, the plain evaluation comes to.
  Conditions: none; this text holds definitions and lemmas of their own.
-/
import Derived.Test.YtbcihiehcekheaaDoorEvK
import Derived.Test.YtbcihiehcekheaaDoorEv20
namespace Go.Evl
open Go
set_option linter.unusedVariables false
set_option linter.unusedSimpArgs false

theorem obind_some {α β : Type} {o : Option α} {f : α → Option β} {r : β} (h : obind o f = some r) : ∃ a, o = some a ∧ f a = some r := by
  cases o with
  | none => cases h
  | some a => exact ⟨a, rfl, h⟩
theorem tst_some {β : Type} {b : Bool} {x y : Option β} {r : β} (h : tst b x y = some r) : (b = true ∧ x = some r) ∨ (b = false ∧ y = some r) := by
  cases b with
  | true => exact .inl ⟨rfl, h⟩
  | false => exact .inr ⟨rfl, h⟩
theorem tst_none {β : Type} {b : Bool} {x : Option β} {r : β} (h : tst b x none = some r) : b = true ∧ x = some r := by
  rcases tst_some h with h | h
  · exact h
  · cases h.2

/-! ### The data in a state -/
theorem norms_eq (xs : List V) : (tysL xs).enc (datL xs) = xs.map V.norm := by
  induction xs with
  | nil => rfl
  | cons x xs ih => exact congrArg (x.norm :: ·) ih
structure Good {α : Type} (F : Fill α) : Prop where
  ok : ∀ a0 a r, F.like a0 a = true → F.fill a0 ((F.vals a).map V.norm ++ r) = (F.nrm a, r)
theorem Good.list {α : Type} {F : Fill α} (h : Good F) : Good F.list := ⟨by
  intro a0 a r hl
  induction a0 generalizing a r with
  | nil =>
    cases a with
    | nil => rfl
    | cons x xs => cases hl
  | cons x0 xs0 ih =>
    cases a with
    | nil => cases hl
    | cons x xs =>
      have hl : (F.like x0 x && listLike F xs0 xs) = true := hl
      rw [Bool.and_eq_true] at hl
      have h1 := h.ok x0 x ((listVals F xs).map V.norm ++ r) hl.1
      have h2 := ih xs r hl.2
      show listFill F (x0 :: xs0) ((F.vals x ++ listVals F xs).map V.norm ++ r) = (F.nrm x :: xs.map F.nrm, r)
      rw [List.map_append, List.append_assoc]
      simp only [listFill, h1]
      have h2 : listFill F xs0 ((listVals F xs).map V.norm ++ r) = (xs.map F.nrm, r) := h2
      rw [h2]⟩
theorem Good.key {α : Type} {F : Fill α} (h : Good F) : Good F.key := ⟨by
  rintro ⟨k0, a0⟩ ⟨k, a⟩ r hl
  have hl2 : (k0 == k && F.like a0 a) = true := hl
  rw [Bool.and_eq_true, beq_iff_eq] at hl2
  obtain ⟨e, hl2⟩ := hl2
  subst e
  have h1 := h.ok a0 a r hl2
  show ((k0, (F.fill a0 ((F.vals a).map V.norm ++ r)).1), (F.fill a0 ((F.vals a).map V.norm ++ r)).2) = _
  rw [h1]; rfl⟩
theorem good_cp : Good fCp := ⟨by
  intro c0 c r hl
  cases c0 with
  | p v0 =>
    cases c with
    | p v => rfl
    | mptr i o => cases hl
  | mptr i0 o0 =>
    cases c with
    | p v => cases hl
    | mptr i o =>
      have hl : (i0 == i && o0 == o) = true := hl
      rw [Bool.and_eq_true, beq_iff_eq, beq_iff_eq] at hl
      obtain ⟨rfl, rfl⟩ := hl
      rfl⟩
theorem castL_refl {t : Ty} {xs : List t.D} (h : t.same t = true) : castL t t xs = some xs := by
  unfold castL
  rw [dif_pos h]
theorem good_d : Good fD := ⟨by
  intro d0 d r hl
  cases d0 with
  | junk => cases d <;> first | rfl | cases hl
  | undef => cases d <;> first | rfl | cases hl
  | p v0 => cases d <;> first | rfl | cases hl
  | own i0 v0 t0 xs0 =>
    cases d with
    | own i v t xs =>
      have hl : (i0 == i && (v0 == v && t0.same t)) = true := hl
      rw [Bool.and_eq_true, Bool.and_eq_true, beq_iff_eq, beq_iff_eq] at hl
      obtain ⟨rfl, rfl, hs⟩ := hl
      have e := Ty.same_eq hs
      subst e
      show (match castL t0 t0 xs with
          | some ys => (D.own i0 v0 t0 ys, r)
          | none => (D.junk, r)) = _
      rw [castL_refl hs]; rfl
    | _ => cases hl
  | mptr i0 o0 =>
    cases d with
    | mptr i o =>
      have hl : (i0 == i && o0 == o) = true := hl
      rw [Bool.and_eq_true, beq_iff_eq, beq_iff_eq] at hl
      obtain ⟨rfl, rfl⟩ := hl
      rfl
    | _ => cases hl
  | mclo f0 cs0 =>
    cases d with
    | mclo f cs =>
      have hl2 : (f0 == f && fCp.list.like cs0 cs) = true := hl
      rw [Bool.and_eq_true, beq_iff_eq] at hl2
      obtain ⟨e, hl2⟩ := hl2
      subst e
      have := good_cp.list.ok cs0 cs r hl2
      show (D.mclo f0 (fCp.list.fill cs0 ((fCp.list.vals cs).map V.norm ++ r)).1, (fCp.list.fill cs0 ((fCp.list.vals cs).map V.norm ++ r)).2) = _
      rw [this]; rfl
    | _ => cases hl
  | yld l0 =>
    cases d with
    | yld l =>
      have hl : (l0 == l) = true := hl
      rw [beq_iff_eq] at hl
      subst hl
      rfl
    | _ => cases hl
  | row t0 xs0 =>
    cases d with
    | row t xs =>
      have hs : t0.same t = true := hl
      have e := Ty.same_eq hs
      subst e
      show (match castL t0 t0 xs with
          | some ys => (D.row t0 ys, r)
          | none => (D.junk, r)) = _
      rw [castL_refl hs]; rfl
    | _ => cases hl
  | msl i0 z0 lo0 len0 =>
    cases d with
    | msl i z lo len =>
      have hl2 : (i0 == i && z0 == z) = true := hl
      rw [Bool.and_eq_true, beq_iff_eq, beq_iff_eq] at hl2
      obtain ⟨e1, e2⟩ := hl2
      subst e1; subst e2
      rfl
    | _ => cases hl
  | mel i0 z0 n0 o0 =>
    cases d with
    | mel i z n o =>
      have hl2 : (i0 == i && (z0 == z && o0 == o)) = true := hl
      rw [Bool.and_eq_true, Bool.and_eq_true, beq_iff_eq, beq_iff_eq, beq_iff_eq] at hl2
      obtain ⟨e1, e2, e3⟩ := hl2
      subst e1; subst e2; subst e3
      rfl
    | _ => cases hl⟩
theorem likeRows_eq : ∀ {a b : List (Nat × Nat)}, likeRows a b = true → a = b
  | [], [], _ => rfl
  | (i, j) :: a, (i', j') :: b, h => by
    simp only [likeRows, Bool.and_eq_true, beq_iff_eq] at h
    obtain ⟨rfl, rfl, h⟩ := h
    rw [likeRows_eq h]
  | [], _ :: _, h => by cases h
  | _ :: _, [], h => by cases h
theorem Ex.like_eq {a b : Ex} (h : a.like b = true) : a = b := by
  cases a <;> cases b <;> simp [Ex.like] at h ⊢ <;> exact h
theorem Ps.like_eq {a b : Ps} (h : a.like b = true) : a = b := by
  cases a <;> cases b <;> simp [Ps.like] at h ⊢
  exact Ex.like_eq h
theorem likeLps_eq : ∀ {a b : List (Nat × Ps)}, likeLps a b = true → a = b
  | [], [], _ => rfl
  | (i, j) :: a, (i', j') :: b, h => by
    simp only [likeLps, Bool.and_eq_true, beq_iff_eq] at h
    obtain ⟨rfl, h1, h⟩ := h
    rw [Ps.like_eq h1, likeLps_eq h]
  | [], _ :: _, h => by cases h
  | _ :: _, [], h => by cases h
theorem same_refl_iff {t t' : Ty} (h : t.same t' = true) : t'.same t' = true := by
  have := Ty.same_eq h
  subst this
  exact h
theorem good_ar : Good fAr := ⟨by
  intro a0 a r hl
  cases a0 with
  | mp tk0 tv0 xs0 =>
    cases a with
    | mp tk tv xs =>
      have hl : (tk0.same tk && tv0.same tv) = true := hl
      rw [Bool.and_eq_true] at hl
      have e1 := Ty.same_eq hl.1
      have e2 := Ty.same_eq hl.2
      subst e1; subst e2
      show (match castL (.sl (.tup (.cons tk0 (.cons tv0 .nil)))) (.sl (.tup (.cons tk0 (.cons tv0 .nil)))) xs with
          | some ys => (Arena.mp tk0 tv0 ys, r)
          | none => (Arena.mp tk0 tv0 [], r)) = _
      have hc : castL (.sl (.tup (.cons tk0 (.cons tv0 .nil)))) (.sl (.tup (.cons tk0 (.cons tv0 .nil)))) xs = some xs :=
        castL_refl (t := .sl (.tup (.cons tk0 (.cons tv0 .nil)))) (by show ((tk0.same tk0) && ((tv0.same tv0) && true)) = true; rw [hl.1, hl.2]; rfl)
      exact congrArg (fun q : Option (List (Ty.sl (.tup (.cons tk0 (.cons tv0 .nil)))).D) => (match q with
          | some ys => (Arena.mp tk0 tv0 ys, r)
          | none => (Arena.mp tk0 tv0 [], r))) hc⟩
theorem nrm_regs (l : List (Nat × D)) : fRegs.nrm l = mapV D.norm l := rfl
theorem fill_like {s s' : St} (h : s.like s' = true) : s.fill (s'.vals.map V.norm) = s'.norm := by
  unfold St.like at h
  simp only [Bool.and_eq_true] at h
  obtain ⟨h1, h2, h3, h4, h5, h6⟩ := h
  have g1 := good_d.key.list.ok s.regs s'.regs ((fRegs.list.vals s'.stk ++ (fBoxes.vals s'.boxes ++ fArs.vals s'.ars)).map V.norm) h1
  have g2 := good_d.key.list.list.ok s.stk s'.stk ((fBoxes.vals s'.boxes ++ fArs.vals s'.ars).map V.norm) h2
  have g3 := good_d.list.key.list.ok s.boxes s'.boxes ((fArs.vals s'.ars).map V.norm) h3
  have g4 := good_ar.key.list.ok s.ars s'.ars [] h6
  rw [List.append_nil] at g4
  unfold St.fill St.vals
  rw [List.map_append]
  have e1 : fRegs.fill s.regs ((fRegs.vals s'.regs).map V.norm ++ (fRegs.list.vals s'.stk ++ (fBoxes.vals s'.boxes ++ fArs.vals s'.ars)).map V.norm) = (fRegs.nrm s'.regs, (fRegs.list.vals s'.stk ++ (fBoxes.vals s'.boxes ++ fArs.vals s'.ars)).map V.norm) := g1
  rw [e1, List.map_append]
  have e2 : fRegs.list.fill s.stk ((fRegs.list.vals s'.stk).map V.norm ++ (fBoxes.vals s'.boxes ++ fArs.vals s'.ars).map V.norm) = (fRegs.list.nrm s'.stk, (fBoxes.vals s'.boxes ++ fArs.vals s'.ars).map V.norm) := g2
  simp only [e2]
  rw [List.map_append]
  have e3 : fBoxes.fill s.boxes ((fBoxes.vals s'.boxes).map V.norm ++ (fArs.vals s'.ars).map V.norm) = (fBoxes.nrm s'.boxes, (fArs.vals s'.ars).map V.norm) := g3
  simp only [e3]
  have e4 : fArs.fill s.ars ((fArs.vals s'.ars).map V.norm) = (s'.ars, []) := by
    have g5 : fArs.fill s.ars ((fArs.vals s'.ars).map V.norm) = (fAr.key.list.nrm s'.ars, []) := g4
    rw [g5]
    congr 1
    exact List.map_id'' (fun a => rfl) _
  rw [e4]
  unfold St.norm
  rw [← likeRows_eq h4, ← likeLps_eq h5]
  rfl
theorem listLike_refl {α : Type} {F : Fill α} (h : ∀ a, F.like a a = true) : ∀ l, F.list.like l l = true
  | [] => rfl
  | a :: l => by
    show (F.like a a && listLike F l l) = true
    rw [h a]; exact listLike_refl h l
theorem keyLike_refl {α : Type} {F : Fill α} (h : ∀ a, F.like a a = true) : ∀ l, F.key.like l l = true := by
  rintro ⟨k, a⟩
  show (k == k && F.like a a) = true
  rw [h a]; simp
mutual
theorem Ty.same_refl : ∀ t : Ty, t.same t = true
  | .int k => by cases k <;> rfl
  | .bool => rfl
  | .str => rfl
  | .sl t => Ty.same_refl t
  | .agg ts => Tys.same_refl ts
  | .tup ts => Tys.same_refl ts
  | .ptr ts o => by show (ts.same ts && o == o) = true; rw [Tys.same_refl ts]; simp
  | .clo f ts => by show (f == f && ts.same ts) = true; rw [Tys.same_refl ts]; simp
  | .lit n => by show (n == n) = true; simp
  | .ref r => by show r.same r = true; exact Rk.same_refl r
theorem Tys.same_refl : ∀ t : Tys, t.same t = true
  | .nil => rfl
  | .cons t ts => by show (t.same t && ts.same ts) = true; rw [Ty.same_refl t, Tys.same_refl ts]; rfl
end
theorem cpLike_refl (c : Cp) : fCp.like c c = true := by
  cases c with
  | p v => rfl
  | mptr i o => show (i == i && o == o) = true; simp
theorem dLike_refl (d : D) : fD.like d d = true := by
  cases d with
  | junk => rfl
  | undef => rfl
  | p v => rfl
  | own i v t xs => show (i == i && (v == v && t.same t)) = true; rw [Ty.same_refl]; simp
  | mptr i o => show (i == i && o == o) = true; simp
  | mclo f cs => show (f == f && fCp.list.like cs cs) = true; rw [listLike_refl cpLike_refl]; simp
  | yld l => show (l == l) = true; simp
  | row t xs => exact Ty.same_refl t
  | msl i z lo len => show (i == i && z == z) = true; simp
  | mel i z n o => show (i == i && (z == z && o == o)) = true; simp
theorem likeRows_refl : ∀ l, likeRows l l = true
  | [] => rfl
  | a :: l => by simp [likeRows, likeRows_refl l]
theorem likeLps_refl : ∀ l, likeLps l l = true
  | [] => rfl
  | (i, p) :: l => by
    have hp : p.like p = true := by
      cases p with
      | ready => rfl
      | busy => rfl
      | done e => cases e <;> simp [Ps.like, Ex.like]
    simp [likeLps, likeLps_refl l, hp]
theorem arLike_refl (a : Arena) : fAr.like a a = true := by
  cases a with
  | mp tk tv xs => show (tk.same tk && tv.same tv) = true; rw [Ty.same_refl, Ty.same_refl]; rfl
theorem St.like_refl (s : St) : s.like s = true := by
  unfold St.like
  rw [Bool.and_eq_true, Bool.and_eq_true, Bool.and_eq_true, Bool.and_eq_true, Bool.and_eq_true]
  exact ⟨listLike_refl (keyLike_refl dLike_refl) _, listLike_refl (listLike_refl (keyLike_refl dLike_refl)) _, listLike_refl (keyLike_refl (listLike_refl dLike_refl)) _, likeRows_refl _, likeLps_refl _, listLike_refl (keyLike_refl arLike_refl) _⟩

/-! ### Operations -/
section
variable {β : Type}
def RelEnv (env : Env) (envK : EnvK β) : Prop := ∀ j ds s κ r, envK j ds s κ = some r → ∃ d s', env j ds s = some (d, s') ∧ κ d s' = some r
def RelCf (cf : FuncId → List V → Option V) (cfK : FuncId → List V → (V → Option β) → Option β) : Prop := ∀ f vs κ r, cfK f vs κ = some r → ∃ v, cf f vs = some v ∧ κ v = some r
def RelRun (run : Env → FuncId → List D → St → Option (D × St)) (runK : EnvK β → FuncId → List D → St → (D → St → Option β) → Option β) : Prop :=
  ∀ env envK, RelEnv env envK → ∀ f ds s κ r, runK envK f ds s κ = some r → ∃ d s', run env f ds s = some (d, s') ∧ κ d s' = some r

theorem binK_sound {op : BinOp} {a b : V} {κ : V → Option β} {r : β} (h : binK std op a b κ = some r) : ∃ v, binV std op a b = some v ∧ κ v = some r := by
  unfold binK at h
  cases a <;> cases b <;> first | (cases h; done) | skip
  · rename_i k x k' y
    · cases hsh : isShift op with
      | true =>
        simp only [hsh, cond_true] at h
        split at h
        · obtain ⟨h1, h2⟩ := tst_none h
          exact ⟨_, by simp [binV, isShift, shiftI, h1], h2⟩
        · obtain ⟨h1, h2⟩ := tst_none h
          exact ⟨_, by simp [binV, isShift, shiftI, h1], h2⟩
        · cases h
      | false =>
      simp only [hsh, cond_false] at h
      obtain ⟨hk, h⟩ := cond_some h
      show ∃ v, (bif isShift op then shiftI std op k x y else bif kindEq k k' then binI std op k x y else none) = some v ∧ _
      rw [hsh, hk]
      split at h
      · obtain ⟨h1, h2⟩ := tst_none h
        exact ⟨_, by simp [binI, h1], h2⟩
      · obtain ⟨h1, h2⟩ := tst_none h
        exact ⟨_, by simp [binI, h1], h2⟩
      · split at h
        · rename_i v hv
          exact ⟨v, hv, h⟩
        · cases h
  · rename_i x y
    · simp only at h
      split at h
      · obtain ⟨h1, h2⟩ := tst_none h
        exact ⟨_, by simp [binV, h1], h2⟩
      · split at h
        · rename_i v hv
          exact ⟨v, hv, h⟩
        · cases h

theorem ev0K_sound {cf : FuncId → List V → Option V} {cfK : FuncId → List V → (V → Option β) → Option β} (hcf : RelCf cf cfK) {rd : A → D} {bx : Nat → Option (List D)} {o : O} {κ : D → Option β} {r : β} (h : ev0K std cfK rd bx o κ = some r) :
    ∃ d, ev0 std cf rd bx o = some d ∧ κ d = some r := by
  have rest : ∀ (h : (match ev0 std (fun _ _ => none) rd bx o with
      | some d => κ d
      | none => none) = some r), ev0 std (fun _ _ => none) rd bx o = ev0 std cf rd bx o → ∃ d, ev0 std cf rd bx o = some d ∧ κ d = some r := by
    intro h e
    rw [e] at h
    split at h
    · rename_i d hd
      exact ⟨d, hd, h⟩
    · cases h
  cases o with
  | pick c a b =>
    simp only [ev0K] at h
    split at h
    · rename_i t ht
      rcases tst_some h with ⟨h1, h2⟩ | ⟨h1, h2⟩
      · exact ⟨_, by simp [ev0, ht, h1], h2⟩
      · exact ⟨_, by simp [ev0, ht, h1], h2⟩
    · cases h
  | bin op x y =>
    simp only [ev0K] at h
    split at h
    · rename_i a ha
      split at h
      · rename_i b hb
        obtain ⟨v, h1, h2⟩ := binK_sound h
        exact ⟨_, by simp [ev0, ha, hb, h1, pv], h2⟩
      · cases h
    · cases h
  | ia sz x i =>
    simp only [ev0K] at h
    split at h
    · rename_i k n hi
      split at h
      · rename_i id sz' lo len hx
        obtain ⟨hz, h⟩ := cond_some h
        obtain ⟨h1, h2⟩ := tst_none h
        exact ⟨_, by simp only [ev0, hx, hi, hz, h1, Bool.and_true, cond_true], h2⟩
      · rename_i hnm
        split at h
        · rename_i hx
          obtain ⟨hz, h⟩ := cond_some h
          obtain ⟨e, h1, h2⟩ := obind_some h
          exact ⟨_, by simp only [ev0, hi, hx, hz, h1, cond_true], h2⟩
        · cases h
    · cases h
  | load sz ag x =>
    simp only [ev0K] at h
    split at h
    · rename_i id sz' i off hx
      split at h
      · rename_i t xs hb
        obtain ⟨hz, h⟩ := cond_some h
        obtain ⟨e, h1, h⟩ := obind_some h
        split at h
        · rename_i v hv
          exact ⟨_, by simp only [ev0, hx, hb, hz, h1, hv, pv, cond_true], h⟩
        · cases h
      · cases h
    · exact rest h rfl
  | sidx x i =>
    simp only [ev0K] at h
    split at h
    · rename_i s hx
      split at h
      · rename_i k n hi
        obtain ⟨e, h1, h2⟩ := obind_some h
        exact ⟨_, by simp only [ev0, hx, hi, h1], h2⟩
      · cases h
    · cases h
  | call f args =>
    simp only [ev0K] at h
    split at h
    · rename_i vs hv
      obtain ⟨v, h1, h2⟩ := hcf _ _ _ _ h
      exact ⟨_, by simp only [ev0, hv, h1, pv], h2⟩
    · cases h
  | callv g args =>
    simp only [ev0K] at h
    split at h
    · rename_i f caps hg
      split at h
      · rename_i vs hv
        obtain ⟨v, h1, h2⟩ := hcf _ _ _ _ h
        exact ⟨_, by simp only [ev0, hg, hv, h1, pv], h2⟩
      · cases h
    · cases h
  | slc sz x lo hi mx =>
    simp only [ev0K] at h
    split at h
    · rename_i l hl
      split at h
      · rename_i hh hhi
        split at h
        · rename_i m hm
          split at h
          · rename_i fl t xs hx
            obtain ⟨hz, h⟩ := cond_some h
            obtain ⟨q, h1, h2⟩ := obind_some h
            exact ⟨_, by simp only [ev0, hl, hhi, hm, hx, hz, h1, cond_true], h2⟩
          · rename_i id ver t xs hx
            obtain ⟨hz, h⟩ := cond_some h
            obtain ⟨q, h1, h2⟩ := obind_some h
            exact ⟨_, by simp only [ev0, hl, hhi, hm, hx, hz, h1, cond_true], h2⟩
          · rename_i id sz' lo0 len hx
            obtain ⟨hz, h⟩ := cond_some h
            obtain ⟨q, h1, h2⟩ := obind_some h
            exact ⟨_, by simp only [ev0, hl, hhi, hm, hx, hz, h1, cond_true], h2⟩
          · cases h
        · cases h
      · cases h
    · cases h
  | sstr x lo hi =>
    simp only [ev0K] at h
    split at h
    · rename_i l hl
      split at h
      · rename_i hh hhi
        split at h
        · rename_i s hx
          obtain ⟨q, h1, h2⟩ := obind_some h
          exact ⟨_, by simp only [ev0, hl, hhi, hx, h1], h2⟩
        · cases h
      · cases h
    · cases h
  | _ => exact rest h rfl

theorem ev1K_sound {cf : FuncId → List V → Option V} {cfK : FuncId → List V → (V → Option β) → Option β} (hcf : RelCf cf cfK) {run : Env → FuncId → List D → St → Option (D × St)} {runK : EnvK β → FuncId → List D → St → (D → St → Option β) → Option β} (hrun : RelRun run runK)
    {env : Env} {envK : EnvK β} (henv : RelEnv env envK) {dst : Nat} {s : St} {o : O} {κ : D → St → Option β} {r : β} (h : ev1K ⟨std, cfK, runK⟩ envK dst s o κ = some r) :
    ∃ d s', ev1 ⟨std, cf, run⟩ env dst s o = some (d, s') ∧ κ d s' = some r := by
  have rest : ev0K std cfK (rdA s.regs) (get s.boxes) o (fun d => κ d s) = some r → (ev1 ⟨std, cf, run⟩ env dst s o = match ev0 std cf (rdA s.regs) (get s.boxes) o with
      | some v => some (v, s)
      | none => none) → ∃ d s', ev1 ⟨std, cf, run⟩ env dst s o = some (d, s') ∧ κ d s' = some r := by
    intro h e
    obtain ⟨d, h1, h2⟩ := ev0K_sound hcf h
    exact ⟨d, s, by rw [e, h1], h2⟩
  cases o with
  | alloc zero => exact ⟨_, _, rfl, h⟩
  | boxm x =>
    simp only [ev1K] at h
    split at h
    · rename_i cs hcs
      exact ⟨_, _, by simp only [ev1, hcs], h⟩
    · cases h
  | store sz a x =>
    simp only [ev1K] at h
    split at h
    · rename_i id off ha
      split at h
      · rename_i ds hds
        split at h
        · rename_i cs hcs
          obtain ⟨hz, h⟩ := cond_some h
          exact ⟨_, _, by simp only [ev1, ha, hds, hcs, hz, cond_true], h⟩
        · cases h
      · cases h
    · rename_i id sz' i off ha
      split at h
      · rename_i ds hds
        split at h
        · rename_i t xs hcs
          split at h
          · rename_i vs hvs
            obtain ⟨hz, h⟩ := cond_some h
            obtain ⟨e, h1, h⟩ := obind_some h
            split at h
            · rename_i e' he'
              exact ⟨_, _, by simp only [ev1, ha, hds, hcs, hvs, hz, h1, he', cond_true], h⟩
            · cases h
          · cases h
        · cases h
      · cases h
    · cases h
  | mkm a =>
    simp only [ev1K] at h
    split at h
    · rename_i tk tv xs ha
      exact ⟨_, _, by simp only [ev1, ha], h⟩
    · cases h
  | mset tk tv x k v =>
    simp only [ev1K] at h
    split at h
    · rename_i a i q1 q2 hx
      split at h
      · rename_i kv hk
        split at h
        · rename_i vv hv
          split at h
          · rename_i tk' tv' xs ha
            obtain ⟨hz, h⟩ := cond_some h
            split at h
            · rename_i kd hkd
              split at h
              · rename_i vd hvd
                obtain ⟨es, h1, h⟩ := obind_some h
                exact ⟨_, _, by simp only [ev1, hx, hk, hv, ha, hz, hkd, hvd, h1, cond_true], h⟩
              · cases h
            · cases h
          · cases h
        · cases h
      · cases h
    · cases h
  | mget tk tv zero ok x k =>
    simp only [ev1K] at h
    split at h
    · rename_i a i q1 q2 hx
      split at h
      · rename_i kv hk
        split at h
        · rename_i tk' tv' xs ha
          obtain ⟨hz, h⟩ := cond_some h
          split at h
          · rename_i kd hkd
            split at h
            · rename_i zd hzd
              obtain ⟨es, h1, h⟩ := obind_some h
              exact ⟨_, _, by simp only [ev1, hx, hk, ha, hz, hkd, hzd, h1, cond_true], h⟩
            · cases h
          · cases h
        · cases h
      · cases h
    · cases h
  | frz x =>
    simp only [ev1K] at h
    split at h
    · rename_i id sz lo len hx
      split at h
      · rename_i t xs hb
        obtain ⟨hz, h⟩ := cond_some h
        obtain ⟨ys, h1, h⟩ := obind_some h
        exact ⟨_, _, by simp only [ev1, hx, hb, hz, h1, cond_true], h⟩
      · cases h
    · rename_i hnm
      refine ⟨_, _, ?_, h⟩
      simp only [ev1]
  | cln f sz bytes x =>
    simp only [ev1K] at h
    split at h
    · rename_i sz' bytes' hcl
      split at h
      · rename_i fl t xs hx
        obtain ⟨hz, h⟩ := cond_some h
        rw [Bool.and_eq_true] at hz
        obtain ⟨h1, h⟩ := tst_none h
        exact ⟨_, _, by simp only [ev1, hcl, hx, hz.1, hz.2, h1, Bool.and_true, cond_true], h⟩
      · cases h
    · cases h
  | clr zero x =>
    simp only [ev1K] at h
    split at h
    · rename_i id sz lo len hx
      split at h
      · rename_i t xs hb
        split at h
        · rename_i z hz'
          obtain ⟨hz, h⟩ := cond_some h
          obtain ⟨h1, h⟩ := tst_none h
          exact ⟨_, _, by simp only [ev1, hx, hb, hz', hz, h1, Bool.and_true, cond_true], h⟩
        · cases h
      · cases h
    · cases h
  | allb zero =>
    simp only [ev1K] at h
    exact ⟨_, _, by simp only [ev1], h⟩
  | bcc f x =>
    simp only [ev1K] at h
    split at h
    · rename_i id hx
      split at h
      · rename_i c0 c1 hb
        obtain ⟨hz, h⟩ := cond_some h
        split at h
        · exact ⟨_, _, by simp only [ev1, hx, hb, hz, cond_true], h⟩
        · obtain ⟨hi, h⟩ := cond_some h
          exact ⟨_, _, by simp only [ev1, hx, hb, hz, hi, cond_true], h⟩
        · cases h
      · cases h
    · cases h
  | apps sl x =>
    simp only [ev1K] at h
    split at h
    · rename_i b hx
      split at h
      · rename_i id ver xs hs
        split at h
        · rename_i v hv
          obtain ⟨hz, h⟩ := cond_some h
          obtain ⟨h1, h⟩ := tst_none h
          exact ⟨_, _, by simp only [ev1, hx, hs, hv, hz, h1, Bool.and_true, cond_true], h⟩
        · cases h
      · cases h
    · cases h
  | bstr f x =>
    simp only [ev1K] at h
    split at h
    · rename_i id hx
      split at h
      · rename_i c0 rid ver xs hb
        split at h
        · rename_i v hv
          obtain ⟨hz, h⟩ := cond_some h
          obtain ⟨h1, h⟩ := tst_none h
          have h1 : (std.fits 1 xs [] && std.bys xs) = true := h1
          exact ⟨_, _, by simp only [ev1, hx, hb, hv, hz, h1, Bool.and_true, cond_true], h⟩
        · cases h
      · cases h
    · cases h
  | app sz bytes sl x =>
    simp only [ev1K] at h
    split at h
    · rename_i fy t' ys' hy
      split at h
      · rename_i full t xs hx
        obtain ⟨e, h⟩ := cond_some h
        subst e
        split at h
        · rename_i ys hys
          have h := (cond_some h).2
          obtain ⟨hz, h⟩ := cond_some h
          obtain ⟨hf, h⟩ := tst_none h
          exact ⟨_, _, by simp only [ev1, hy, hx, hys, hz, hf, Bool.and_true, cond_true], h⟩
        · cases h
      · rename_i id ver t xs hx
        split at h
        · rename_i v hv
          split at h
          · rename_i ys hys
            obtain ⟨hz, h⟩ := cond_some h
            rw [Bool.and_eq_true] at hz
            obtain ⟨hf, h⟩ := tst_none h
            exact ⟨_, _, by simp only [ev1, hy, hx, hv, hys, hz.1, hz.2, hf, Bool.and_true, cond_true], h⟩
          · cases h
        · cases h
      · cases h
    · cases h
  | call f args =>
    simp only [ev1K] at h
    split at h
    · rename_i vs hv
      cases hn : (tysL vs).nr with
      | true =>
        rw [hn] at h
        obtain ⟨v, h1, h2⟩ := hcf _ _ _ _ h
        exact ⟨_, _, by simp only [ev1, hv, hn, cond_true, h1, pvs], h2⟩
      | false =>
        rw [hn] at h
        obtain ⟨d, s', h1, h2⟩ := hrun env envK henv _ _ _ _ _ h
        exact ⟨d, s', by simp only [ev1, hv, hn, cond_false, h1], h2⟩
    · rename_i hv
      obtain ⟨d, s', h1, h2⟩ := hrun env envK henv _ _ _ _ _ h
      exact ⟨d, s', by simp only [ev1, hv, h1], h2⟩
  | callv g args =>
    simp only [ev1K] at h
    split at h
    · rename_i f caps hg
      split at h
      · rename_i vs hv
        cases hn : (tysL (vs ++ caps)).nr with
        | true =>
          rw [hn] at h
          obtain ⟨v, h1, h2⟩ := hcf _ _ _ _ h
          exact ⟨_, _, by simp only [ev1, hg, hv, hn, cond_true, h1, pvs], h2⟩
        | false =>
          rw [hn] at h
          obtain ⟨d, s', h1, h2⟩ := hrun env envK henv _ _ _ _ _ h
          exact ⟨d, s', by simp only [ev1, hg, hv, hn, cond_false, h1], h2⟩
      · rename_i hv
        obtain ⟨d, s', h1, h2⟩ := hrun env envK henv _ _ _ _ _ h
        exact ⟨d, s', by simp only [ev1, hg, hv, h1], h2⟩
    · rename_i f cs hg
      obtain ⟨d, s', h1, h2⟩ := hrun env envK henv _ _ _ _ _ h
      exact ⟨d, s', by simp only [ev1, hg, h1], h2⟩
    · rename_i lvl hg
      obtain ⟨d, s', h1, h2⟩ := henv _ _ _ _ _ h
      exact ⟨d, s', by simp only [ev1, hg, h1], h2⟩
    · cases h
  | mkf f args =>
    simp only [ev1K] at h
    split at h
    · rename_i vs hv
      exact ⟨_, _, by simp only [ev1, hv], h⟩
    · rename_i hv
      split at h
      · rename_i cs hcs
        exact ⟨_, _, by simp only [ev1, hv, hcs], h⟩
      · cases h
  | _ => exact rest h rfl

theorem put_same' {α : Type} : ∀ {l : List (Nat × α)} {k : Nat} {v : α}, get l k = some v → put l k v = l
  | [], _, _, h => by cases h
  | (j, x) :: l, k, v, h => by
    simp only [get] at h
    simp only [put]
    cases hj : j == k with
    | true =>
      rw [hj] at h
      have h : some x = some v := h
      cases h
      have : j = k := by simpa using hj
      subst this
      rfl
    | false =>
      rw [hj] at h
      show (j, x) :: put l k v = (j, x) :: l
      rw [put_same' h]
theorem fix_same {s : St} {g : Nat} {b : Bool} (h : get s.regs g = some (.p (.bool b))) : s.fix g b = s := by
  unfold St.fix
  rw [put_same' h]

theorem guardK_sound {s : St} {g : Option (Nat × Bool)} {yes no : St → Option β} {r : β} (h : guardK s g yes no = some r) : (wantsV s g = some true ∧ yes s = some r) ∨ (wantsV s g = some false ∧ no s = some r) := by
  unfold guardK at h
  split at h
  · exact .inl ⟨rfl, h⟩
  · rename_i g want
    split at h
    · rename_i b hb
      have hw : wantsV s (some (g, want)) = some (bif b then want else !want) := by simp [wantsV, hb]
      rcases tst_some h with ⟨rfl, h⟩ | ⟨rfl, h⟩
      · rw [fix_same hb] at h
        cases want with
        | true => exact .inl ⟨hw, h⟩
        | false => exact .inr ⟨hw, h⟩
      · rw [fix_same hb] at h
        cases want with
        | true => exact .inr ⟨hw, h⟩
        | false => exact .inl ⟨hw, h⟩
    · rename_i hb
      exact .inr ⟨by simp [wantsV, hb], h⟩
    · cases h
theorem step1K_sound {cf : FuncId → List V → Option V} {cfK : FuncId → List V → (V → Option β) → Option β} (hcf : RelCf cf cfK) {run : Env → FuncId → List D → St → Option (D × St)} {runK : EnvK β → FuncId → List D → St → (D → St → Option β) → Option β} (hrun : RelRun run runK)
    {env : Env} {envK : EnvK β} (henv : RelEnv env envK) {s : St} {i : Ins} {κ : St → Option β} {r : β} (h : step1K ⟨std, cfK, runK⟩ envK s i κ = some r) :
    ∃ s', step1 ⟨std, cf, run⟩ env s i = some s' ∧ κ s' = some r := by
  unfold step1K at h
  rcases guardK_sound h with ⟨h1, h⟩ | ⟨h1, h⟩
  · obtain ⟨d, s', h2, h3⟩ := ev1K_sound hcf hrun henv h
    exact ⟨_, by simp only [step1, h1, h2], h3⟩
  · exact ⟨_, by simp only [step1, h1], h⟩
theorem step0K_sound {cf : FuncId → List V → Option V} {cfK : FuncId → List V → (V → Option β) → Option β} (hcf : RelCf cf cfK) {bx : Nat → Option (List D)} {s : St} {i : Ins} {κ : St → Option β} {r : β} (h : step0K std cfK bx s i κ = some r) :
    ∃ s', step0 std cf bx s i = some s' ∧ κ s' = some r := by
  unfold step0K at h
  rcases guardK_sound h with ⟨h1, h⟩ | ⟨h1, h⟩
  · have rest : ev0K std cfK (rdA s.regs) bx i.op (fun d => κ (s.set i.dst d)) = some r → (step0 std cf bx s i = match ev0 std cf (rdA s.regs) bx i.op with
        | some v => some (s.set i.dst v)
        | none => none) → ∃ s', step0 std cf bx s i = some s' ∧ κ s' = some r := by
      intro h e
      obtain ⟨d, h2, h3⟩ := ev0K_sound hcf h
      exact ⟨_, by rw [e, h2], h3⟩
    obtain ⟨dst, g, op, lv⟩ := i
    cases op with
    | alloc zero =>
      simp only at h
      split at h
      · rename_i d
        exact ⟨_, by simp only [step0, h1], h⟩
      · cases h
    | store sz a x =>
      simp only at h
      split at h
      · rename_i id off ha
        split at h
        · rename_i ds hds
          split at h
          · rename_i cs hcs
            obtain ⟨hz, h⟩ := cond_some h
            exact ⟨_, by simp only [step0, h1, ha, hds, hcs, hz, cond_true], h⟩
          · cases h
        · cases h
      · cases h
    | _ => exact rest h (by unfold step0; rw [h1]; rfl)
  · exact ⟨_, by simp only [step0, h1], h⟩
theorem stepsK_sound {f : St → Ins → Option St} {fK : St → Ins → (St → Option β) → Option β} (hf : ∀ s i κ r, fK s i κ = some r → ∃ s', f s i = some s' ∧ κ s' = some r) :
    ∀ {is : List Ins} {s : St} {κ : St → Option β} {r : β}, stepsK fK is s κ = some r → ∃ s', steps f is s = some s' ∧ κ s' = some r
  | [], s, κ, r, h => ⟨s, rfl, h⟩
  | i :: is, s, κ, r, h => by
    obtain ⟨s1, h1, h2⟩ := hf _ _ _ _ h
    obtain ⟨s2, h3, h4⟩ := stepsK_sound hf h2
    exact ⟨s2, by simp only [steps, h1, h3], h4⟩

theorem RelEnv.and {env : Env} {envK : EnvK β} (h : RelEnv env envK) {lvl : Nat} {g : List D → St → Option (D × St)} {gK : List D → St → (D → St → Option β) → Option β} (hg : ∀ ds s κ r, gK ds s κ = some r → ∃ d s', g ds s = some (d, s') ∧ κ d s' = some r) : RelEnv (env.and lvl g) (envK.and lvl gK) := by
  intro j ds s κ r hh
  unfold EnvK.and at hh
  unfold Env.and
  cases hj : j == lvl with
  | true => rw [hj] at hh; exact hg _ _ _ _ hh
  | false => rw [hj] at hh; exact h _ _ _ _ _ hh
theorem roundK_sound {lvl hgt : Nat} {ps : List Nat} {as bd : St → Option (Ex × St)} {asK bdK : St → (Ex → St → Option β) → Option β} (ha : ∀ s K r, asK s K = some r → ∃ e s', as s = some (e, s') ∧ K e s' = some r) (hb : ∀ s K r, bdK s K = some r → ∃ e s', bd s = some (e, s') ∧ K e s' = some r)
    {ds : List D} {s : St} {κ : D → St → Option β} {r : β} (h : roundK lvl hgt ps asK bdK ds s κ = some r) : ∃ d s', round lvl hgt ps as bd ds s = some (d, s') ∧ κ d s' = some r := by
  unfold roundK at h
  split at h
  · rename_i hl
    split at h
    · rename_i snap hs
      obtain ⟨hp, h⟩ := cond_some h
      obtain ⟨e, s2, h1, h⟩ := ha _ _ _ h
      split at h
      · split at h
        · rename_i hl2
          obtain ⟨e3, s3, h3, h⟩ := hb _ _ _ h
          split at h
          · rename_i q st hst
            exact ⟨_, _, by simp only [round, hl, hs, hp, cond_true, h1, hl2, h3, hst], h⟩
          · cases h
        · cases h
      · cases h
    · cases h
  · cases h

theorem evK_sound {cf : FuncId → List V → Option V} {cfK : FuncId → List V → (V → Option β) → Option β} (hcf : RelCf cf cfK) {run : Env → FuncId → List D → St → Option (D × St)} {runK : EnvK β → FuncId → List D → St → (D → St → Option β) → Option β} (hrun : RelRun run runK) {keep up : List Nat} {k : Nat} :
    ∀ (c : C) (env : Env) (envK : EnvK β), RelEnv env envK → ∀ (s : St) (K : Ex → St → Option β) (r : β), evK ⟨std, cfK, runK⟩ keep up k c envK s K = some r → ∃ e s', evC ⟨std, cf, run⟩ keep up k c env s = some (e, s') ∧ K e s' = some r
  | .skip, env, envK, he, s, K, r, h => ⟨_, _, rfl, h⟩
  | .reg ops, env, envK, he, s, K, r, h => by
    simp only [evK] at h
    obtain ⟨s1, h1, h2⟩ := stepsK_sound (f := step1 ⟨std, cf, run⟩ env) (fun s i κ r => step1K_sound hcf hrun he) h
    exact ⟨_, _, by simp only [evC, h1], h2⟩
  | .drw ops late, env, envK, he, s, K, r, h => by
    simp only [evK] at h
    cases hd : drwOk ops (killAll (allocsOf ops) s) with
    | false => simp [hd] at h
    | true =>
    simp only [hd, Bool.not_true, cond_false] at h
    obtain ⟨s1, h1, h2⟩ := stepsK_sound (f := step0 std cf (bxD ops (killAll (allocsOf ops) s))) (fun s i κ r => step0K_sound hcf) h
    obtain ⟨s2, h3, h4⟩ := stepsK_sound (f := step1 ⟨std, cf, run⟩ env) (fun s i κ r => step1K_sound hcf hrun he) h2
    exact ⟨_, _, by simp only [evC, hd, Bool.not_true, cond_false, h1, h3], h4⟩
  | .seq a b, env, envK, he, s, K, r, h => by
    simp only [evK] at h
    obtain ⟨e, s1, h1, h2⟩ := evK_sound hcf hrun a env envK he s _ r h
    cases e with
    | normal =>
      obtain ⟨e2, s2, h3, h4⟩ := evK_sound hcf hrun b env envK he s1 _ r h2
      exact ⟨_, _, by simp only [evC, h1, h3], h4⟩
    | exit j => exact ⟨_, _, by simp only [evC, h1], h2⟩
    | ret => exact ⟨_, _, by simp only [evC, h1], h2⟩
  | .cond c a b, env, envK, he, s, K, r, h => by
    simp only [evK] at h
    split at h
    · rename_i g
      split at h
      · rename_i t ht
        have hr : rdA s.regs (.t g) = .p (.bool t) := by simp [rdA, ht]
        rcases tst_some h with ⟨rfl, h⟩ | ⟨rfl, h⟩
        · rw [fix_same ht] at h
          obtain ⟨e, s', h1, h2⟩ := evK_sound hcf hrun a env envK he s _ r h
          exact ⟨_, _, by simp only [evC, hr, cond_true, h1], h2⟩
        · rw [fix_same ht] at h
          obtain ⟨e, s', h1, h2⟩ := evK_sound hcf hrun b env envK he s _ r h
          exact ⟨_, _, by simp only [evC, hr, cond_false, h1], h2⟩
      · cases h
    · rename_i t
      rcases tst_some h with ⟨rfl, h⟩ | ⟨rfl, h⟩
      · obtain ⟨e, s', h1, h2⟩ := evK_sound hcf hrun a env envK he s _ r h
        exact ⟨_, _, by simp only [evC, rdA, cond_true, h1], h2⟩
      · obtain ⟨e, s', h1, h2⟩ := evK_sound hcf hrun b env envK he s _ r h
        exact ⟨_, _, by simp only [evC, rdA, cond_false, h1], h2⟩
    · cases h
  | .blk id b, env, envK, he, s, K, r, h => by
    simp only [evK] at h
    obtain ⟨e, s1, h1, h2⟩ := evK_sound hcf hrun b env envK he s _ r h
    cases e with
    | normal => exact ⟨_, _, by simp only [evC, h1], h2⟩
    | exit j =>
      simp only at h2
      cases hj : j == id with
      | true => rw [hj] at h2; exact ⟨_, _, by simp only [evC, h1, hj, cond_true], h2⟩
      | false => rw [hj] at h2; exact ⟨_, _, by simp only [evC, h1, hj, cond_false], h2⟩
    | ret => exact ⟨_, _, by simp only [evC, h1], h2⟩
  | .loop lv b, env, envK, he, s, K, r, h => by
    simp only [evK] at h
    have key : ∀ (j : Nat) (s' : St) (t : (tysL (s.keep lv).vals).D), (s.keep lv).like (s'.keep lv) = true → (tysL (s.keep lv).vals).enc t = (s'.keep lv).vals.map V.norm →
        loopK (fun rec t => evK ⟨std, cfK, runK⟩ keep up k b envK ((s.keep lv).fill ((tysL (s.keep lv).vals).enc t)) fun e s' => match e with
          | .normal => bif (s.keep lv).like (s'.keep lv) then (match (tysL (s.keep lv).vals).dec (s'.keep lv).vals with
            | some t' => rec t'
            | none => none) else none
          | .exit j => xit (K (.exit j) s')
          | .ret => xit (K .ret s')) j t = some r →
        ∃ e s2, iter (fun s => evC ⟨std, cf, run⟩ keep up k b env (s.keep lv).norm) j s' = some (e, s2) ∧ K e s2 = some r := by
      intro j
      induction j with
      | zero => intro s' t _ _ h; cases h
      | succ j ih =>
        intro s' t hl ht h
        have h : evK ⟨std, cfK, runK⟩ keep up k b envK ((s.keep lv).fill ((tysL (s.keep lv).vals).enc t)) _ = some r := h
        rw [ht, fill_like hl] at h
        obtain ⟨e, s1, h1, h2⟩ := evK_sound hcf hrun b env envK he _ _ r h
        cases e with
        | normal =>
          simp only at h2
          obtain ⟨hl1, h2⟩ := cond_some h2
          split at h2
          · rename_i t' ht'
            obtain ⟨e2, s2, h3, h4⟩ := ih s1 t' hl1 (by rw [← norms_eq]; exact (decs_norm _ _ _ ht').symm) h2
            exact ⟨e2, s2, by simp only [iter, h1, h3], h4⟩
          · cases h2
        | exit q => exact ⟨_, _, by simp only [iter, h1], h2⟩
        | ret => exact ⟨_, _, by simp only [iter, h1], h2⟩
    obtain ⟨e, s2, h1, h2⟩ := key k s _ (St.like_refl _) (norms_eq _) h
    exact ⟨e, s2, by simp only [evC, h1], h2⟩
  | .exit id, env, envK, he, s, K, r, h => ⟨_, _, rfl, h⟩
  | .ret, env, envK, he, s, K, r, h => ⟨_, _, rfl, h⟩
  | .rng lv g ps as bd, env, envK, he, s0, K, r, h => by
    simp only [evK] at h
    split at h
    · rename_i f caps hseq
      split at h
      · rename_i hno
        obtain ⟨d, s', h1, h2⟩ := hrun _ _ (he.and (g := round (s0.keep lv).norm.lps.length (s0.keep lv).norm.stk.length ps (evC ⟨std, cf, run⟩ keep up k as env) (evC ⟨std, cf, run⟩ keep up k bd env)) (fun ds s κ r q => roundK_sound (fun s K r => evK_sound hcf hrun as env envK he s K r) (fun s K r => evK_sound hcf hrun bd env envK he s K r) q)) _ _ _ _ _ h
        split at h2
        · rename_i hl
          exact ⟨_, _, by simp only [evC, hseq, hno, h1, hl], h2⟩
        · rename_i e hl
          exact ⟨_, _, by simp only [evC, hseq, hno, h1, hl], h2⟩
        · cases h2
      · cases h
    · cases h

theorem endK_sound {rs : List RV} {κ : D → St → Option β} {e : Ex} {s : St} {r : β} (h : endK rs κ e s = some r) : ∃ d s', leave rs s = some (d, s') ∧ κ d s' = some r ∧ (e = .normal ∨ e = .ret) := by
  unfold endK at h
  split at h
  · cases h
  · split at h
    · rename_i p hp
      exact ⟨p.1, p.2, hp, h, .inl rfl⟩
    · cases h
  · split at h
    · rename_i p hp
      exact ⟨p.1, p.2, hp, h, .inr rfl⟩
    · cases h
theorem runK_sound {tab : FuncId → Option Fn} {cf : FuncId → List V → Option V} {cfK : FuncId → List V → (V → Option β) → Option β} (hcf : RelCf cf cfK) {k : Nat} : ∀ n, RelRun (runF tab cf k n) (runK tab std cfK k n)
  | 0 => fun env envK he f ds s κ r h => by cases h
  | n + 1 => by
    intro env envK he f ds s κ r h
    simp only [runK] at h
    split at h
    · rename_i fn hfn
      obtain ⟨hlen, h⟩ := cond_some h
      obtain ⟨e, s1, h1, h2⟩ := evK_sound hcf (runK_sound hcf n) fn.code env envK he _ _ r h
      obtain ⟨d, s', h3, h4, h5⟩ := endK_sound h2
      refine ⟨d, s', ?_, h4⟩
      rcases h5 with rfl | rfl
      · simp only [runF, hfn, hlen, cond_true, h1, h3]
      · simp only [runF, hfn, hlen, cond_true, h1, h3]
    · cases h
end

theorem callT_rel {β : Type} {fb : Option V} {fbK : Option β} {f : FuncId} {vs : List V} {κ : V → Option β} {r : β} (hfb : fbK = some r → ∃ v, fb = some v ∧ κ v = some r) : ∀ (T : Tab), callT fbK T f vs κ = some r → ∃ v, callT fb T f vs some = some v ∧ κ v = some r
  | [], h => hfb h
  | (g, F) :: T, h => by
    have ih := callT_rel (f := f) (vs := vs) hfb T
    simp only [callT] at h ⊢
    cases hg : g == f with
    | true =>
      rw [hg] at h
      simp only [cond_true] at h ⊢
      cases hd : F.args.dec vs with
      | some a =>
        rw [hd] at h
        obtain ⟨d, h1, h2⟩ := obind_some h
        exact ⟨F.res.enc d, by simp only [h1, obind], h2⟩
      | none =>
        rw [hd] at h
        exact ih h
    | false =>
      rw [hg] at h
      exact ih h
/-- A call by contents, plainly. -/
def cfD (tab : FuncId → Option Fn) (T : Tab) (k : Nat) : Nat → FuncId → List V → Option V
  | 0, f, vs => callT none T f vs some
  | n + 1, f, vs => callT (callF tab (cfD tab T k n) k (n + 1) f vs) T f vs some
theorem callF_of {β : Type} {tab : FuncId → Option Fn} {cf : FuncId → List V → Option V} {cfK : FuncId → List V → (V → Option β) → Option β} (hcf : RelCf cf cfK) {k n : Nat} {f : FuncId} {vs : List V} {κ : V → Option β} {r : β}
    (h : (match tab f with
      | some fn => bif (vs.length == fn.params) && (tysL vs).nr then evK ⟨std, cfK, runK tab std cfK k n⟩ fn.keep fn.up k fn.code envK0 { st0 with regs := start 0 (vs.map D.p), stk := [[]], ars := ars0 fn.ars } (endK fn.results (valK κ)) else none
      | none => none) = some r) : ∃ v, callF tab cf k n f vs = some v ∧ κ v = some r := by
  split at h
  · rename_i fn hfn
    obtain ⟨hlen, h⟩ := cond_some h
    obtain ⟨e, s1, h1, h2⟩ := evK_sound hcf (runK_sound (tab := tab) hcf (k := k) n) fn.code env0 envK0 (fun j ds s κ r q => by cases q) _ _ r h
    obtain ⟨d', s', h3, h4, h5⟩ := endK_sound h2
    unfold valK at h4
    split at h4
    · rename_i v hv
      obtain ⟨hn, h4⟩ := cond_some h4
      refine ⟨v, ?_, h4⟩
      rcases h5 with rfl | rfl
      · simp only [callF, hfn, hlen, cond_true, h1, h3, fst?, hv, hn]
      · simp only [callF, hfn, hlen, cond_true, h1, h3, fst?, hv, hn]
    · cases h4
  · cases h
theorem cfI_rel {β : Type} (tab : FuncId → Option Fn) (T : Tab) (k : Nat) : ∀ n, RelCf (β := β) (cfD tab T k n) (cfI tab T std k n)
  | 0 => fun f vs κ r h => callT_rel (fun q => by cases q) T h
  | n + 1 => fun f vs κ r h => callT_rel (fun q => callF_of (cfI_rel tab T k n) q) T h
/-- Each function of a table says what the program's function comes to. -/
def TabOk (P : Program) (T : Tab) : Prop := ∀ f F, (f, F) ∈ T → ∀ a d, F.fn a = some d → Sound P f (F.args.enc a) (F.res.enc d)
theorem Sound.dec {P : Program} {f : FuncId} {ts : Tys} {vs : List V} {a : ts.D} {r : V} (h : Sound P f (ts.enc a) r) (hd : ts.dec vs = some a) : Sound P f vs r := by
  refine ⟨h.1, fun M w us hm hr => h.2 M w us hm ?_⟩
  rw [← decs_norm ts vs a hd, norms_eq]
  exact hr.norm
theorem callT_ok {P : Program} {T : Tab} (h : TabOk P T) {fb : Option V} {f : FuncId} {xs : List V} (hfb : ∀ r, fb = some r → Sound P f xs r) : ∀ r, callT fb T f xs some = some r → Sound P f xs r := by
  induction T with
  | nil => intro r hr; exact hfb r hr
  | cons p T ih =>
    obtain ⟨g, F⟩ := p
    have ih := ih (fun f F' hm => h f F' (List.mem_cons_of_mem _ hm))
    intro r hr
    simp only [callT] at hr
    cases hg : g == f with
    | true =>
      rw [hg] at hr
      simp only [cond_true] at hr
      have : g = f := by simpa using hg
      subst this
      cases hd : F.args.dec xs with
      | some a =>
        rw [hd] at hr
        obtain ⟨d, h1, h2⟩ := obind_some hr
        cases h2
        exact (h g F (by simp) a d h1).dec hd
      | none =>
        rw [hd] at hr
        exact ih r hr
    | false =>
      rw [hg] at hr
      exact ih r hr
structure ClonesOk (P : Program) : Prop where
  clones : ∀ f sz bytes, cloneFn f = some (sz, bytes) → CloneOk P f sz bytes
  bccs : ∀ f, bccFn f = true → BccOk P f
  bstrs : ∀ f, bstrFn f = true → BstrOk P f
theorem cfD_ok {P : Program} (hmix : P.follows .mixedOrders = true) (hcl : ClonesOk P) {tab : FuncId → Option Fn} (htab : ∀ f fn, tab f = some fn → ∃ g, P.funcs[f]? = some g ∧ okFn P g fn = true) {T : Tab} (h : TabOk P T) {k : Nat} : ∀ n, CfOk P (cfD tab T k n)
  | 0 => ⟨fun f xs r hr => callT_ok h (fun r q => by cases q) r hr, hcl.clones, hcl.bccs, hcl.bstrs⟩
  | n + 1 => ⟨fun f xs r hr => callT_ok h (fun r q => callF_sound hmix htab (cfD_ok hmix hcl htab h n) q) r hr, hcl.clones, hcl.bccs, hcl.bstrs⟩
theorem Sound.res {P : Program} {f : FuncId} {xs : List V} {r : V} {t : Ty} {d : t.D} (h : Sound P f xs r) (hd : t.dec r = some d) : Sound P f xs (t.enc d) := by
  refine ⟨h.1, fun M w us hm hr => (h.2 M w us hm hr).mono ?_⟩
  rintro e w' ⟨v, M', h1, h2, h3⟩
  exact ⟨v, M', h1, h2.dec hd, h3⟩
/-- A FUNCTION OF THE PROGRAM SAYS WHAT ITS EVALUATION SAYS, where the functions that it calls say what the table says. -/
theorem callK_sound {P : Program} (hmix : P.follows .mixedOrders = true) (hcl : ClonesOk P) {tab : FuncId → Option Fn} (htab : ∀ f fn, tab f = some fn → ∃ g, P.funcs[f]? = some g ∧ okFn P g fn = true) {T : Tab} (hT : TabOk P T) {k n : Nat} {f : FuncId} {args : Tys} {res : Ty} {a : args.D} {d : res.D}
    (h : callK tab T std k n f args res a = some d) : Sound P f (args.enc a) (res.enc d) := by
  obtain ⟨v, h1, h2⟩ := callF_of (cfI_rel tab T k n) h
  exact (callF_sound hmix htab (cfD_ok hmix hcl htab hT n) h1).res h2

end Go.Evl
