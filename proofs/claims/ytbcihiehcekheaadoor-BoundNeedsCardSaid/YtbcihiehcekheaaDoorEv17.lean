/-
  A value semantics for the program's code, part 17: loops over functions: the records, and one round.
  Conditions: none; this text holds definitions and lemmas of their own.
-/
import Derived.Test.YtbcihiehcekheaaDoorEvF
import Derived.LoopNIn
namespace Go.Evl
open Go Go.RowKit
set_option linter.unusedVariables false
set_option linter.unusedSimpArgs false

def Ex.to : Ex → Exit
  | .normal => .normal
  | .exit id => .exit id
  | .ret => .ret
def markOf (b : Nat) : Deferred := { target := .collected b, args := #[] }
/-- The marks of a frame. -/
def Marks (h : Nat) (G : Gh) (ds : List Deferred) : Prop := ∃ bs : List Nat, ds = bs.map markOf ∧ bs.Nodup ∧ ∀ b ∈ bs, G.mark b = some h
theorem Marks.nil (h : Nat) (G : Gh) : Marks h G [] := ⟨[], rfl, List.nodup_nil, by simp⟩
theorem Marks.step {h : Nat} {G G' : Gh} {ds : List Deferred} (m : Marks h G ds) (g : Gstep h G G') : Marks h G' ds := by
  obtain ⟨bs, h1, h2, h3⟩ := m
  exact ⟨bs, h1, h2, fun b hb => g.2 b h (h3 b hb) (Nat.le_refl _)⟩
/-- The fence of a frame: a plain one, or that of a round of a loop that is under way. -/
def FenceOk (F : Fence) (G : Gh) : Prop := F = Fence.wide ∨ ∃ lvl l r k, F = Fence.wide.inRound l ∧ G.lp lvl = some (l, r, k)
theorem FenceOk.wideF {F : Fence} {G : Gh} (h : FenceOk F G) : WideF F := by
  rcases h with h | ⟨_, l, _, _, h, _⟩
  · exact .inl h
  · exact .inr ⟨l, h⟩
theorem FenceOk.step {F : Fence} {G G' : Gh} {h : Nat} (f : FenceOk F G) (g : Gstep h G G') : FenceOk F G' := by
  rcases f with f | ⟨lvl, l, r, k, f, e⟩
  · exact .inl f
  · exact .inr ⟨lvl, l, r, k, f, by rw [g.1]; exact e⟩

section
variable {M0 : Mem} {w0 : World} {M : Mem} {G : Gh} {ts : List (Array Value)} {w : World} {s : St}

theorem not_cell_of_loop {w : World} {l : Nat} {r : Loop} (h : w.heap[l]? = some (.loop r)) {a : Addr} {v : Value} (hc : w.cell? a = some v) : a.block ≠ l := by
  rintro rfl
  simp [World.cell?, h] at hc
theorem cell_putObj {w : World} {l : Nat} {o : Obj} {a : Addr} (h : a.block ≠ l) : (w.putObj l o).cell? a = w.cell? a := by
  simp [World.cell?, World.putObj_heap_other h]

theorem RD.lpMore {G' : Gh} {d : D} {u : Value} (h : RD M G d u) (hb : G'.blk = G.blk) (hr : G'.rows = G.rows) (hl : ∀ j p, G.lp j = some p → G'.lp j = some p) : RD M G' d u := by
  cases d with
  | junk => trivial
  | undef => exact h
  | p v => exact h
  | own j ver ty xs => exact ⟨h.1, fun row hrow => h.2 row (by rw [← hr]; exact hrow)⟩
  | mptr j off => obtain ⟨b, k, e⟩ := h; exact ⟨b, by rw [hb]; exact k, e⟩
  | mclo f cs =>
    obtain ⟨us, e, hlen, hc⟩ := h
    refine ⟨us, e, hlen, fun i c u hi hu => ?_⟩
    have := hc i c u hi hu
    cases c with
    | p v => exact this
    | mptr j off => obtain ⟨b, k, e⟩ := this; exact ⟨b, by rw [hb]; exact k, e⟩
  | yld j =>
    obtain ⟨l, r, h', k, e⟩ := h
    exact ⟨l, r, h', hl j _ k, e⟩
  | row t xs => trivial
  | msl j sz lo len =>
    obtain ⟨a, n, cap, e1, e2, e3, e4, hb'⟩ := h
    exact ⟨a, n, cap, e1, e2, e3, e4, fun hp => by rw [hb]; exact hb' hp⟩
  | mel j sz i off => obtain ⟨hi, b, k, e⟩ := h; exact ⟨hi, b, by rw [hb]; exact k, e⟩

/-- The parts of the state that a new object at a record's block leaves as they were. -/
theorem SR.putAt (h : SR M0 w0 M G ts w s) {l : Nat} {r : Loop} (hl : w.heap[l]? = some (.loop r)) (hw : w0.heap.size ≤ l) (o : Obj) :
    ExtS M0 w0 M (w.putObj l o) ∧ (∀ id cs, get s.boxes id = some cs → BoxOk M G w0.heap.size (w.putObj l o) id cs) ∧ (∀ id v, get s.rows id = some v → RowOk M G w0.heap.size (w.putObj l o) id v) ∧
      ((∀ b h, G.mark b = some h → w0.heap.size ≤ b ∧ (w.putObj l o).heap[b]? = some (.deferred (some []))) ∧ ArsOk M w0.heap.size (w.putObj l o) s.ars) := by
  have hoth : ∀ b : Nat, (∃ cs t fr, w.heap[b]? = some (Obj.cells cs t fr)) → (w.putObj l o).heap[b]? = w.heap[b]? := by
    rintro b ⟨cs, t, fr, hb⟩
    refine World.putObj_heap_other ?_
    rintro rfl
    rw [hl] at hb; cases hb
  refine ⟨ExtS.make h.ext.tab h.ext.same (fun a v hv => ?_) (fun a v hv => by rw [World.putObj_size]; exact h.ext.ok.old a v hv) (h.ext.below.trans ⟨rfl, rfl, rfl, by rw [World.putObj_size]; exact Nat.le_refl _, fun k hk => World.putObj_heap_other (by omega)⟩) h.ext.refs (fun a k b c e => by rw [World.putObj_size]; exact h.ext.ok.oldR a k b c e), fun id cs hc => ?_, fun id v hv => ?_, fun b hh hm => ?_, h.marks.2.still (Sub.refl M) rfl (fun b es cl e => (World.putObj_heap_other (by rintro rfl; rw [hl] at e; cases e)).trans e)⟩
  · have hc := h.ext.ok.cell a v hv
    rw [cell_putObj (not_cell_of_loop hl hc)]; exact hc
  · exact (h.boxes id cs hc).upd' (Sub.refl M) rfl (fun b ho hlt hcs => ⟨hoth b hcs, rfl, fun _ _ => rfl⟩) (fun d u hu => hu)
  · obtain ⟨row, h1, h2, h3⟩ := h.rows id v hv
    exact ⟨row, h1, h2, h3.upd' (Sub.refl M) (fun b ho hlt hcs => ⟨hoth b hcs, ho, fun _ _ => rfl⟩)⟩
  · obtain ⟨k1, k2⟩ := h.marks.1 b hh hm
    refine ⟨k1, (World.putObj_heap_other ?_).trans k2⟩
    rintro rfl
    rw [hl] at k2; cases k2

/-- A record says something new. -/
theorem SR.putLoop (h : SR M0 w0 M G ts w s) {lvl l : Nat} {r : Loop} {hh : Nat} (hlp : G.lp lvl = some (l, r, hh)) (ps : Ps) : SR M0 w0 M G ts (w.putObj l (.loop (recAt r ps))) { s with lps := put s.lps lvl ps } := by
  obtain ⟨⟨ps0, hps⟩, k2, k3, k4⟩ := h.recs lvl l r hh hlp
  obtain ⟨l', r', h', e1, hl⟩ := h.loops lvl ps0 hps
  rw [hlp] at e1; cases e1
  obtain ⟨a1, a2, a3, a4⟩ := h.putAt hl k2 (.loop (recAt r ps))
  refine ⟨a1, h.frames, a2, a3, fun j ps' hj => ?_, fun j l' r' h' hj => ?_, h.inj, a4⟩
  · by_cases e : j = lvl
    · subst e
      simp only [get_put_same, Option.some.injEq] at hj
      subst hj
      exact ⟨l, r, hh, hlp, World.putObj_heap_same (lt_of_heap hl)⟩
    · rw [get_put_ne _ _ e] at hj
      obtain ⟨l2, r2, h2, e2, e3⟩ := h.loops j ps' hj
      refine ⟨l2, r2, h2, e2, (World.putObj_heap_other ?_).trans e3⟩
      rintro rfl
      exact e (h.inj _ _ _ _ _ _ _ e2 hlp)
  · obtain ⟨⟨q1, q2⟩, q3⟩ := h.recs j l' r' h' hj
    refine ⟨?_, q3⟩
    by_cases e : j = lvl
    · subst e; exact ⟨ps, get_put_same _ _ _⟩
    · exact ⟨q1, by rw [get_put_ne _ _ e]; exact q2⟩

/-- A loop is over. -/
theorem SR.endLoop (h : SR M0 w0 M G ts w s) {lvl l : Nat} {r : Loop} {hh : Nat} (hlp : G.lp lvl = some (l, r, hh)) (o : Obj) :
    SR M0 w0 M { G with lp := fun j => if j = lvl then none else G.lp j } ts (w.putObj l o) (s.killY lvl) := by
  obtain ⟨⟨ps0, hps⟩, k2, k3, k4⟩ := h.recs lvl l r hh hlp
  obtain ⟨l', r', h', e1, hl⟩ := h.loops lvl ps0 hps
  rw [hlp] at e1; cases e1
  obtain ⟨a1, a2, a3, a4⟩ := h.putAt hl k2 o
  refine ⟨a1, ?_, fun j cs hj => ?_, fun j v hj => ?_, fun j ps' hj => ?_, fun j l' r' h' hj => ?_, fun i j l1 r1 r2 h1 h2 e1 e2 => ?_, a4⟩
  · exact h.frames.map (fun d u hd => hd.killY rfl rfl (fun j hj => if_neg hj))
  · obtain ⟨cs0, h0, rfl⟩ := get_mapV_some hj
    exact (a2 j cs0 h0).upd (fixes_killY lvl) (Sub.refl M) rfl (fun b ho hlt _ => ⟨rfl, rfl, fun _ _ => rfl⟩) (fun d u hu => hu.killY rfl rfl (fun j hj => if_neg hj))
  · exact a3 j v hj
  · obtain ⟨hne, hj⟩ := get_del_some hj
    obtain ⟨l2, r2, h2, e2, e3⟩ := h.loops j ps' hj
    refine ⟨l2, r2, h2, (if_neg hne).trans e2, (World.putObj_heap_other ?_).trans e3⟩
    rintro rfl
    exact hne (h.inj _ _ _ _ _ _ _ e2 hlp)
  · by_cases e : j = lvl
    · have : (none : Option (Nat × Loop × Nat)) = some (l', r', h') := (if_pos e).symm.trans hj
      cases this
    · have hj' : G.lp j = some (l', r', h') := (if_neg e).symm.trans hj
      obtain ⟨⟨q1, q2⟩, q3⟩ := h.recs j l' r' h' hj'
      refine ⟨⟨q1, ?_⟩, q3⟩
      show get (del s.lps lvl) j = some q1
      rw [get_del, Bool.cond_eq_ite, if_neg (by simp; exact fun q => e q.symm)]; exact q2
  · by_cases ei : i = lvl
    · have : (none : Option (Nat × Loop × Nat)) = some (l1, r1, h1) := (if_pos ei).symm.trans e1
      cases this
    · by_cases ej : j = lvl
      · have : (none : Option (Nat × Loop × Nat)) = some (l1, r2, h2) := (if_pos ej).symm.trans e2
        cases this
      · exact h.inj i j l1 r1 r2 h1 h2 ((if_neg ei).symm.trans e1) ((if_neg ej).symm.trans e2)

/-- A loop begins: its record lies in a new block. -/
theorem SR.newLoop {t : Array Value} (h : SR M0 w0 M G (t :: ts) w s) {lvl : Nat} (hlvl : get s.lps lvl = none) (r : Loop) (hr : r.tmps = t) (hst : recAt r .ready = r) (mk : Nat → Option Nat)
    (hmk : ∀ b k, mk b = some k → w0.heap.size ≤ b ∧ w.heap[b]? = some (.deferred (some []))) :
    SR M0 w0 M { G with lp := fun j => if j = lvl then some (w.heap.size, r, ts.length) else G.lp j, mark := mk } (t :: ts) (w.alloc (.loop r)) { s with lps := put s.lps lvl .ready } := by
  have hno : G.lp lvl = none := by
    cases hg : G.lp lvl with
    | none => rfl
    | some p =>
      obtain ⟨l, r', h'⟩ := p
      obtain ⟨⟨ps, hps⟩, _⟩ := h.recs lvl l r' h' hg
      rw [hlvl] at hps; cases hps
  have hx := alloc_ext' h.ext.ok (.loop r)
  have h1 := h.later hx
  have hmore : ∀ j p, G.lp j = some p → (if j = lvl then some (w.heap.size, r, ts.length) else G.lp j) = some p := fun j p hj => by
    rw [if_neg]; exact hj
    rintro rfl
    rw [hno] at hj; cases hj
  refine ⟨h1.ext, h1.frames.imp (fun d u hd => hd.lpMore rfl rfl hmore), fun j cs hj => ?_, fun j v hj => h1.rows j v hj, fun j ps hj => ?_, fun j l' r' h' hj => ?_, fun i j l1 r1 r2 h1' h2' e1 e2 => ?_, fun b k hb => ?_, h1.marks.2⟩
  · exact (h1.boxes j cs hj).upd' (Sub.refl M) rfl (fun b ho hlt _ => ⟨rfl, rfl, fun _ _ => rfl⟩) (fun d u hu => hu.lpMore rfl rfl hmore)
  · by_cases e : j = lvl
    · subst e
      simp only [get_put_same, Option.some.injEq] at hj
      subst hj
      exact ⟨w.heap.size, r, ts.length, if_pos rfl, by rw [hst]; exact heap_alloc_new w _⟩
    · rw [get_put_ne _ _ e] at hj
      obtain ⟨l2, r2, h2, e2, e3⟩ := h1.loops j ps hj
      exact ⟨l2, r2, h2, (if_neg e).trans e2, e3⟩
  · by_cases e : j = lvl
    · subst e
      have : some (w.heap.size, r, ts.length) = some (l', r', h') := (if_pos rfl).symm.trans hj
      cases this
      refine ⟨⟨.ready, get_put_same _ _ _⟩, h.old, by simp, ?_⟩
      simp [hr]
    · have hj' : G.lp j = some (l', r', h') := (if_neg e).symm.trans hj
      obtain ⟨⟨q1, q2⟩, q3⟩ := h1.recs j l' r' h' hj'
      exact ⟨⟨q1, by rw [get_put_ne _ _ e]; exact q2⟩, q3⟩
  · have lt : ∀ k l r h, G.lp k = some (l, r, h) → l < w.heap.size := fun k l r hh hk => by
      obtain ⟨⟨ps, hps⟩, _⟩ := h.recs k l r hh hk
      obtain ⟨l2, r2, h2, q1, q2⟩ := h.loops k ps hps
      rw [hk] at q1; cases q1
      exact lt_of_heap q2
    by_cases ei : i = lvl <;> by_cases ej : j = lvl
    · rw [ei, ej]
    · have e1' : some (w.heap.size, r, ts.length) = some (l1, r1, h1') := (if_pos ei).symm.trans e1
      cases e1'
      have := lt j _ _ _ ((if_neg ej).symm.trans e2)
      omega
    · have e2' : some (w.heap.size, r, ts.length) = some (l1, r2, h2') := (if_pos ej).symm.trans e2
      cases e2'
      have := lt i _ _ _ ((if_neg ei).symm.trans e1)
      omega
    · exact h.inj i j l1 r1 r2 h1' h2' ((if_neg ei).symm.trans e1) ((if_neg ej).symm.trans e2)
  · obtain ⟨q1, q2⟩ := hmk b k hb
    exact ⟨q1, (heap_alloc_old w _ b (lt_of_heap q2)).trans q2⟩

/-- The newest frame goes. -/
theorem SR.pop {t : Array Value} {r : List (Nat × D)} {st : List (List (Nat × D))} (h : SR M0 w0 M G (t :: ts) w s) (hs : s.stk = r :: st) (hl : Lower G ts.length) : SR M0 w0 M G ts w { s with regs := r, stk := st } := by
  have hf := h.frames.tail
  rw [hs] at hf
  refine ⟨h.ext, hf, h.boxes, h.rows, h.loops, fun lvl l r h' hp => ?_, h.inj, h.marks⟩
  obtain ⟨k1, k2, k3, k4⟩ := h.recs lvl l r h' hp
  have hlt := hl lvl l r h' hp
  refine ⟨k1, k2, hlt, ?_⟩
  rw [← k4, List.length_cons, show ts.length + 1 - 1 - h' = (ts.length - 1 - h') + 1 by omega, List.getElem?_cons_succ]
/-- A new frame. -/
theorem SR.push (h : SR M0 w0 M G ts w s) {t : Array Value} {r : List (Nat × D)} (hr : ∀ j d, get r j = some d → RD M G d (t.getD j undef)) : SR M0 w0 M G (t :: ts) w { s with regs := r, stk := s.regs :: s.stk } := by
  refine ⟨h.ext, h.frames.cons hr, h.boxes, h.rows, h.loops, fun lvl l r h' hp => ?_, h.inj, h.marks⟩
  obtain ⟨k1, k2, k3, k4⟩ := h.recs lvl l r h' hp
  refine ⟨k1, k2, by simp; omega, ?_⟩
  rw [← k4, List.length_cons, show ts.length + 1 - 1 - h' = (ts.length - 1 - h') + 1 by omega, List.getElem?_cons_succ]
theorem SR.lower (h : SR M0 w0 M G ts w s) : Lower G ts.length := fun lvl l r h' hp => (h.recs lvl l r h' hp).2.2.1
end

theorem assign_ok {M : Mem} {G : Gh} {N : Nat} : ∀ (ps : List Nat) (ds : List D) (us : List Value) (regs : List (Nat × D)) (t : Array Value), (∀ p ∈ ps, p < N) → t.size = N → ds.length = ps.length → DL M G ds us → (∀ j d, get regs j = some d → RD M G d (t.getD j undef)) →
    ((ps.zip us).foldl (fun t (p, v) => t.setIfInBounds p v) t).size = N ∧ ∀ j d, get (assign ps ds regs) j = some d → RD M G d (((ps.zip us).foldl (fun t (p, v) => t.setIfInBounds p v) t).getD j undef)
  | [], ds, us, regs, t, _, hN, hl, hd, h => by
    have : ds = [] := List.eq_nil_of_length_eq_zero hl
    subst this
    exact ⟨hN, by simpa [assign] using h⟩
  | p :: ps, [], us, regs, t, _, hN, hl, hd, h => by simp at hl
  | p :: ps, d :: ds, [], regs, t, _, hN, hl, hd, h => by simp [DL] at hd
  | p :: ps, d :: ds, u :: us, regs, t, hp, hN, hl, hd, h => by
    simp only [List.zip_cons_cons, List.foldl_cons, assign]
    refine assign_ok ps ds us ((p, d) :: regs) (t.setIfInBounds p u) (fun q hq => hp q (by simp [hq])) (by simpa using hN) (by simpa using hl) hd.tail (fun j e hj => ?_)
    have hpl : p < t.size := by rw [hN]; exact hp p (by simp)
    by_cases e' : j = p
    · subst e'
      rw [get_cons_same] at hj
      cases hj
      have := hd.2 0 d u rfl rfl
      simpa [Array.getD_eq_getD_getElem?, hpl] using this
    · rw [get_cons_ne _ _ e'] at hj
      have := h j e hj
      simpa [Array.getD_eq_getD_getElem?, Array.getElem?_setIfInBounds, Ne.symm e'] using this

end Go.Evl
