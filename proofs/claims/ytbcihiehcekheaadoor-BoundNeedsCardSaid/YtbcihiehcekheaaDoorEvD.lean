/-
  A value semantics for the program's code, the part on regions that draw their order.
  Conditions: none; this text holds definitions and lemmas of their own.
-/
import Derived.Test.YtbcihiehcekheaaDoorEv16
namespace Go.Evl
open Go Go.RowKit
set_option linter.unusedSectionVars false
set_option linter.unusedVariables false
set_option linter.unusedSimpArgs false

theorem mem_allocsOf : ∀ {is : List Ins} {k : Nat} {x : Ins} {d : Nat} {z : List V}, is[k]? = some x → x.makes d z → d ∈ allocsOf is
  | [], k, x, d, z, h, _ => by simp at h
  | i :: is, k, x, d, z, h, hm => by
    cases k with
    | zero =>
      simp at h; subst h
      simp [allocsOf, hm.1, hm.2]
    | succ k =>
      have := mem_allocsOf (by simpa using h) hm
      simp only [allocsOf]
      split
      · exact List.mem_cons_of_mem _ this
      · exact this
theorem allocsOf_mem : ∀ {is : List Ins} {d : Nat}, d ∈ allocsOf is → ∃ (k : Nat) (x : Ins) (z : List V), is[k]? = some x ∧ x.makes d z
  | [], d, h => by simp [allocsOf] at h
  | i :: is, d, h => by
    have tl : d ∈ allocsOf is → ∃ (k : Nat) (x : Ins) (z : List V), (i :: is)[k]? = some x ∧ x.makes d z := fun h => by
      obtain ⟨k, x, z, hx, hm⟩ := allocsOf_mem h
      exact ⟨k + 1, x, z, by simpa using hx, hm⟩
    simp only [allocsOf] at h
    split at h
    · rename_i z d' ho hd
      rcases List.mem_cons.1 h with rfl | h
      · exact ⟨0, i, z, rfl, ho, hd⟩
      · exact tl h
    · exact tl h
theorem tg_made {is : List Ins} {s : St} {k : Nat} {x : Ins} {d : Nat} {z : List V} (hx : is[k]? = some x) (hm : x.makes d z) : tg is s d = s.num d := by
  have : (allocsOf is).contains d = true := by simpa using mem_allocsOf hx hm
  simp only [tg, this, cond_true]
theorem mem_oldSt {al : List Nat} : ∀ {is : List Ins} {j : Nat} {y : Ins} {d : Nat}, is[j]? = some y → y.stores d → d ∉ al → d ∈ oldSt al is
  | [], j, y, d, h, _, _ => by simp at h
  | i :: is, j, y, d, h, hs, hn => by
    have hc : al.contains d = false := by simpa using hn
    cases j with
    | zero =>
      simp at h; subst h
      obtain ⟨sz, v, ho⟩ := hs
      simp [oldSt, ho, hn]
    | succ j =>
      have ih := mem_oldSt (by simpa using h) hs hn
      simp only [oldSt]
      split
      · rename_i d' _ _
        cases al.contains d' with
        | true => exact ih
        | false => exact List.mem_cons_of_mem _ ih
      · exact ih
/-- The boxes of the stores are different ones. -/
structure TgOk (is : List Ins) (s : St) : Prop where
  new : ∀ (j : Nat) (y : Ins) (d : Nat), is[j]? = some y → y.stores d → d ∉ allocsOf is → ∀ (k : Nat) (x : Ins) (d' : Nat) (z : List V), is[k]? = some x → x.makes d' z → s.num d' ≠ tg is s d
  inj : ∀ (j : Nat) (y : Ins) (d : Nat) (j' : Nat) (y' : Ins) (d' : Nat), is[j]? = some y → y.stores d → is[j']? = some y' → y'.stores d' → d' ≠ d → tg is s d' ≠ tg is s d
  seen : ∀ (id : Nat) (cs : List D), bxD is s id = some cs → get s.boxes id = some cs ∧ ∀ (j : Nat) (y : Ins) (d : Nat), is[j]? = some y → y.stores d → d ∉ allocsOf is → tg is s d ≠ id
theorem drwOk_spec {is : List Ins} {s : St} (h : drwOk is s = true) : TgOk is s := by
  have h := List.all_eq_true.1 h
  have new : ∀ (j : Nat) (y : Ins) (d : Nat), is[j]? = some y → y.stores d → d ∉ allocsOf is → ∀ (k : Nat) (x : Ins) (d' : Nat) (z : List V), is[k]? = some x → x.makes d' z → s.num d' ≠ tg is s d := fun j y d hy hs hn k x d' z hx hm => by
    have := h d (mem_oldSt hy hs hn)
    rw [Bool.and_eq_true] at this
    simpa using List.all_eq_true.1 this.1 d' (mem_allocsOf hx hm)
  refine ⟨new, fun j y d j' y' d' hy hs hy' hs' hne => ?_, fun id cs hc => ?_⟩
  · by_cases hd : d ∈ allocsOf is
    · obtain ⟨k, x, z, hx, hm⟩ := allocsOf_mem hd
      rw [tg_made hx hm]
      by_cases hd' : d' ∈ allocsOf is
      · obtain ⟨k', x', z', hx', hm'⟩ := allocsOf_mem hd'
        rw [tg_made hx' hm']
        intro e
        exact hne (by simp only [St.num] at e; omega)
      · exact (new j' y' d' hy' hs' hd' k x d z hx hm).symm
    · by_cases hd' : d' ∈ allocsOf is
      · obtain ⟨k', x', z', hx', hm'⟩ := allocsOf_mem hd'
        rw [tg_made hx' hm']
        exact new j y d hy hs hd k' x' d' z' hx' hm'
      · have := h d (mem_oldSt hy hs hd)
        rw [Bool.and_eq_true] at this
        have := List.all_eq_true.1 this.2 d' (mem_oldSt hy' hs' hd')
        simpa [hne] using this
  · simp only [bxD] at hc
    cases hb : (oldSt (allocsOf is) is).any (fun d => tg is s d == id) with
    | true => rw [hb] at hc; cases hc
    | false =>
      rw [hb] at hc
      refine ⟨hc, fun j y d hy hs hn e => ?_⟩
      have := List.any_eq_false.1 hb d (mem_oldSt hy hs hn)
      simp [e] at this

section
variable {cf : FuncId → List V → Option V} {is : List Ins} {S : Nat → St} {bx : Nat → Option (List D)}

theorem step_regs_ne {s s' : St} {i : Ins} {t : Nat} (h : Step0 cf bx s i s') (hn : i.dst ≠ some t) : get s'.regs t = get s.regs t := by
  cases h with
  | pure v hw he => exact set_get_ne hn
  | skip hw => exact set_get_ne hn
  | alloc zero d hw ho hd => exact set_get_ne hn
  | store sz a x id off ds cs hw ho ha hx hb hz hl hr => exact set_get_ne hn
theorem set_stk (s : St) (d : Option Nat) (v : D) : (s.set d v).stk = s.stk ∧ (s.set d v).rows = s.rows ∧ (s.set d v).lps = s.lps ∧ (s.set d v).boxes = s.boxes := by cases d <;> exact ⟨rfl, rfl, rfl, rfl⟩
theorem set_ars (s : St) (d : Option Nat) (v : D) : (s.set d v).ars = s.ars := by cases d <;> rfl
theorem step_rest {s s' : St} {i : Ins} (h : Step0 cf bx s i s') : s'.stk = s.stk ∧ s'.rows = s.rows ∧ s'.lps = s.lps ∧ s'.ars = s.ars := by
  cases h <;> (obtain ⟨h1, h2, h3, _⟩ := set_stk _ i.dst _; exact ⟨h1, h2, h3, set_ars _ i.dst _⟩)

variable (hS : ∀ j i, is[j]? = some i → step0 std cf bx (S j) i = some (S (j + 1)))
include hS
/-- One slot between two states. -/
theorem regs_same {t j : Nat} : ∀ (m : Nat), j + m ≤ is.length → (∀ k x, j ≤ k → k < j + m → is[k]? = some x → x.dst ≠ some t) → get (S (j + m)).regs t = get (S j).regs t
  | 0, _, _ => rfl
  | m + 1, hm, h => by
    have ih := regs_same m (by omega) (fun k x h1 h2 hk => h k x h1 (by omega) hk)
    have hlt : j + m < is.length := by omega
    have hx : is[j + m]? = some is[j + m] := List.getElem?_eq_getElem hlt
    rw [show j + (m + 1) = j + m + 1 from rfl, step_regs_ne (step0_shape (hS _ _ hx)) (h _ _ (by omega) (by omega) hx), ih]
theorem rest_same : ∀ (j : Nat), j ≤ is.length → (S j).stk = (S 0).stk ∧ (S j).rows = (S 0).rows ∧ (S j).lps = (S 0).lps ∧ (S j).ars = (S 0).ars
  | 0, _ => ⟨rfl, rfl, rfl, rfl⟩
  | j + 1, h => by
    obtain ⟨a1, a2, a3, a4⟩ := rest_same j (by omega)
    have hx : is[j]? = some is[j] := List.getElem?_eq_getElem (by omega)
    obtain ⟨b1, b2, b3, b4⟩ := step_rest (step0_shape (hS _ _ hx))
    exact ⟨b1.trans a1, b2.trans a2, b3.trans a3, b4.trans a4⟩

variable {ops : Array Oper} {late : List Ins} (hdr : DrawOk ops is late)
include hdr
/-- What makes a box. -/
theorem alloc_step {k : Nat} {x : Ins} {d : Nat} {z : List V} (hx : is[k]? = some x) (hm : x.makes d z) : S (k + 1) = { S k with boxes := put (S k).boxes ((S k).num d) (z.map .p) }.set (some d) (.mptr ((S k).num d) 0) := by
  obtain ⟨hop, hd⟩ := hm
  obtain ⟨hg, _⟩ := hdr.alloc k x z hx hop
  have hs := step0_shape (hS _ _ hx)
  generalize S (k + 1) = s' at hs
  cases hs with
  | pure v hw he => rw [hop] at he; simp [ev0] at he
  | skip hw => rw [hg] at hw; simp [wantsV] at hw
  | alloc zero d' hw ho hd' =>
    rw [hop] at ho; cases ho
    rw [hd] at hd'; cases hd'
    rw [hd]
  | store sz a x id off ds cs hw ho ha hx hb hz hl hr => rw [hop] at ho; cases ho
theorem num_same {j d : Nat} (hj : j ≤ is.length) : (S j).num d = (S 0).num d := by
  simp only [St.num, (rest_same hS j hj).1]
/-- The address of a store. -/
theorem store_addr {j : Nat} {y : Ins} {d : Nat} (hy : is[j]? = some y) (hs : y.stores d) : ∃ off, rdA (S j).regs (.t d) = .mptr (tg is (S 0) d) off := by
  obtain ⟨sz, v, hop⟩ := hs
  obtain ⟨hg, hdst, d', e, hor, _⟩ := hdr.store j y sz _ v hy hop
  cases e
  have hjl : j < is.length := (List.getElem?_eq_some_iff.1 hy).1
  rcases hor with ⟨k, x, z, hk, hx, hm⟩ | hno
  · have h1 := alloc_step hS hdr hx hm
    have h2 := regs_same hS (j := k + 1) (t := d) (j - (k + 1)) (by omega) (fun i q h1 _ hq hd => absurd hd (hdr.one i k q x d hq hx hm.2 (by omega)).1)
    rw [show k + 1 + (j - (k + 1)) = j by omega, h1, set_get] at h2
    refine ⟨0, ?_⟩
    simp only [rdA, h2, Option.getD_some]
    rw [num_same hS hdr (by omega), tg_made hx hm]
  · have hnm : (allocsOf is).contains d = false := by
      cases hc : (allocsOf is).contains d with
      | false => rfl
      | true =>
        obtain ⟨k, x, z, hx, hm⟩ := allocsOf_mem (by simpa using hc)
        exact absurd hm.2 (hno k x hx)
    have h2 := regs_same hS (j := 0) (t := d) j (by omega) (fun i q _ _ hq => hno i q hq)
    rw [Nat.zero_add] at h2
    have hs := step0_shape (hS _ _ hy)
    generalize S (j + 1) = s' at hs
    cases hs with
    | pure v hw he => rw [hop] at he; simp [ev0] at he
    | skip hw => rw [hg] at hw; simp [wantsV] at hw
    | alloc zero d' hw ho hd' => rw [hop] at ho; cases ho
    | store sz' a x id off ds cs hw ho ha hx hb hz hl hr =>
      rw [hop] at ho; cases ho
      refine ⟨off, ?_⟩
      rw [ha]
      cases hg0 : get (S 0).regs d with
      | none =>
        rw [hg0] at h2
        simp [rdA, h2] at ha
      | some dv =>
        rw [hg0] at h2
        simp only [rdA, h2, Option.getD_some] at ha
        subst ha
        simp only [tg, hnm, cond_false, hg0]
/-- What stores into a box. -/
theorem store_step {j : Nat} {y : Ins} {d sz : Nat} {v : A} (hy : is[j]? = some y) (hop : y.op = .store sz (.t d) v) :
    ∃ ds cs off, (rdA (S j).regs v).cells = some ds ∧ get (S j).boxes (tg is (S 0) d) = some cs ∧ ds.length = sz ∧ off + sz ≤ cs.length ∧ S (j + 1) = { S j with boxes := put (S j).boxes (tg is (S 0) d) (setRange cs off ds) } := by
  obtain ⟨hg, hdst, _⟩ := hdr.store j y sz _ v hy hop
  obtain ⟨off0, had⟩ := store_addr hS hdr hy ⟨sz, v, hop⟩
  have hs := step0_shape (hS _ _ hy)
  generalize S (j + 1) = s' at hs
  cases hs with
  | pure v hw he => rw [hop] at he; simp [ev0] at he
  | skip hw => rw [hg] at hw; simp [wantsV] at hw
  | alloc zero d' hw ho hd' => rw [hop] at ho; cases ho
  | store sz' a x id off ds cs hw ho ha hx hb hz hl hr =>
    rw [hop] at ho; cases ho
    rw [had] at ha; cases ha
    exact ⟨ds, cs, off0, hx, hb, hz, hl, by rw [hdst]; rfl⟩
/-- One box between two states. -/
theorem boxes_same {id j : Nat} : ∀ (m : Nat), j + m ≤ is.length → (∀ k x, j ≤ k → k < j + m → is[k]? = some x → (∀ d z, x.makes d z → (S 0).num d ≠ id) ∧ ∀ d, x.stores d → tg is (S 0) d ≠ id) → get (S (j + m)).boxes id = get (S j).boxes id
  | 0, _, _ => rfl
  | m + 1, hm, h => by
    have ih := boxes_same m (by omega) (fun k x h1 h2 hk => h k x h1 (by omega) hk)
    have hlt : j + m < is.length := by omega
    have hx : is[j + m]? = some is[j + m] := List.getElem?_eq_getElem hlt
    obtain ⟨h1, h2⟩ := h _ _ (by omega) (by omega) hx
    rw [show j + (m + 1) = j + m + 1 from rfl, ← ih]
    have hs := step0_shape (hS _ _ hx)
    cases hop : is[j + m].op with
    | alloc z =>
      obtain ⟨_, d, hd⟩ := hdr.alloc _ _ z hx hop
      rw [alloc_step hS hdr hx ⟨hop, hd⟩, (set_stk _ _ _).2.2.2]
      exact get_put_ne _ _ (by rw [num_same hS hdr (by omega)]; exact (h1 d z ⟨hop, hd⟩).symm)
    | store sz ad v =>
      obtain ⟨_, _, d, rfl, _⟩ := hdr.store _ _ sz ad v hx hop
      obtain ⟨ds, cs, _, _, _, _, _, e⟩ := store_step hS hdr hx hop
      rw [e]
      exact get_put_ne _ _ (h2 d ⟨sz, v, hop⟩).symm
    | _ =>
      generalize S (j + m + 1) = s' at hs
      cases hs with
      | pure v hw he => rw [(set_stk _ _ _).2.2.2]
      | skip hw => rw [(set_stk _ _ _).2.2.2]
      | alloc zero d' hw ho hd' => rw [hop] at ho; cases ho
      | store sz' a x id off ds cs hw ho ha hx hb hz hl hr => rw [hop] at ho; cases ho
end

section
variable {P : Program} {o : Oper} {cf : FuncId → List V → Option V} {run : Env → FuncId → List D → St → Option (D × St)} {env : Env} {ρ : Nat → Option (Nat × Loop × Nat)}
variable {F : Fence} {n : Nat} {Q : Exit → Act → World → Prop}
variable {M0 : Mem} {w0 : World} {N : Nat} {M : Mem} {G : Gh} {a : Act} {ts : List (Array Value)} {w : World} {s : St}

theorem step1_one (hF : WideF F) (hcf : CfOk P cf) (hrun : RunOk P M0 w0 run) (henv : EnvOk P M0 w0 env ρ) {ops : Array Oper} {i : Ins} {s1 : St} {K : Act → World → Prop} (hρ : ∀ j q, ρ j = some q → G.lp j = some q) (hl : Lower G ts.length) (hN : a.tmps.size = N)
    (h : SR M0 w0 M G (a.tmps :: ts) w s) (ho : okIns P N ops.toList o i = true) (hs1 : step1 ⟨std, cf, run⟩ env s i = some s1)
    (hK : ∀ M' G' a' w', SR M0 w0 M' G' (a'.tmps :: ts) w' s1 → a'.tmps.size = N → a'.defers = a.defers → Gstep ts.length G G' → K a' w') :
    if Region.wanted o (yielded ops a.tmps) = true then o.wpIn F n P a w K Q else (∀ f, o.about P w a.eval = some f → F.fn f) ∧ K (a.put o.dst undef) w := by
  obtain ⟨hop, hdst, hN'⟩ := okIns_op ho
  simp only [step1] at hs1
  have h := h.prune i.lv
  generalize s.prune i.lv = s at h hs1
  have hg : ∀ g want, i.guard = some (g, want) → RD M G ((get s.regs g).getD .junk) (a.tmps.getD g undef) := fun g want _ => (h.reads [g]).tmp g (by simp)
  split at hs1
  · rename_i hw
    rw [wanted_eq ho hw hg, if_pos rfl]
    split at hs1
    · rename_i d' s2 hv
      simp only [Option.some.injEq] at hs1
      subst hs1
      refine ev1_sound hF hcf hrun henv hρ h hop hv (fun v M' G' w' hst hSR hRD => ?_)
      rw [h.height] at hst
      have := hSR.set (hl.step hst) (fun t ht => by rw [hN]; exact hN' t ht) hRD
      rw [hdst] at this ⊢
      exact hK M' G' _ w' this (by rw [put_size]; exact hN) (put_defers _ _ _) hst
    · cases hs1
  · rename_i hw
    rw [wanted_eq ho hw hg, if_neg (by simp)]
    simp only [Option.some.injEq] at hs1
    subst hs1
    refine ⟨fun f _ => hF.fn f, ?_⟩
    have := h.set hl (d := .undef) (v := undef) (dst := o.dst) (fun t ht => by rw [hN]; exact hN' t ht) rfl
    rw [hdst] at this ⊢
    exact hK M G _ w this (by rw [put_size]; exact hN) (put_defers _ _ _) (Gstep.refl _ _)
  · cases hs1

theorem killAll_SR : ∀ (l : List Nat) (G : Gh) (s : St), SR M0 w0 M G ts w s → ∃ G', SR M0 w0 M G' ts w (killAll l s) ∧ G'.lp = G.lp ∧ G'.mark = G.mark ∧ (killAll l s).stk.length = s.stk.length ∧
    (∀ j, G.blk j = none → G'.blk j = none) ∧ (∀ j, get s.boxes j = none → get (killAll l s).boxes j = none) ∧ ∀ d ∈ l, G'.blk (s.num d) = none ∧ get (killAll l s).boxes (s.num d) = none
  | [], G, s, h => ⟨G, h, rfl, rfl, rfl, fun _ h => h, fun _ h => h, by simp⟩
  | d :: l, G, s, h => by
    have h1 : SR M0 w0 M { G with blk := fun j => if j = s.num d then none else G.blk j } ts w (s.kill (s.num d)) := h.fresh (s.num d) (Sub.refl M) rfl h.ext (fun j hj => ⟨if_neg hj, rfl⟩) rfl rfl (fun b _ => ⟨rfl, rfl, fun _ _ => rfl⟩)
    obtain ⟨G', k1, k2, k3, k4, k5, k6, k7⟩ := killAll_SR l _ _ h1
    have hnum : ∀ e, (s.kill (s.num d)).num e = s.num e := fun e => by simp [St.num, St.kill]
    have hnone : ∀ j, get s.boxes j = none ∨ j = s.num d → get (s.kill (s.num d)).boxes j = none := fun j hj => by
      cases hg : get (s.kill (s.num d)).boxes j with
      | none => rfl
      | some cs =>
        obtain ⟨hne, hg'⟩ := get_del_some hg
        obtain ⟨cs0, h0, _⟩ := get_mapV_some hg'
        rcases hj with hj | hj
        · rw [hj] at h0; cases h0
        · exact absurd hj hne
    refine ⟨G', k1, k2, k3, k4.trans (by simp [St.kill]), fun j hj => k5 j (by show (if j = s.num d then none else G.blk j) = none; split <;> first | rfl | exact hj), fun j hj => k6 j (hnone j (.inl hj)), fun e he => ?_⟩
    rcases List.mem_cons.1 he with rfl | he
    · exact ⟨k5 _ (if_pos rfl), k6 _ (hnone _ (.inr rfl))⟩
    · have := k7 e he
      rw [hnum] at this
      exact this
end

end Go.Evl
