/-
  A value semantics for the program's code, part 4: an operation that turns nothing yields a value that stands for what the small operation yields.
  Conditions: none; this text holds definitions and lemmas of their own.
-/
import Derived.Test.YtbcihiehcekheaaDoorEv3
namespace Go.Evl
open Go Go.RowKit
set_option linter.unusedVariables false
set_option linter.unusedSimpArgs false

/-- A row that may still be appended to: the version, the slice itself, its elements, their size in cells. -/
structure Row where
  ver : Nat
  sv : Value
  us : List Value
  sz : Nat
/-- Where the boxes lie, what the rows are, and whose a block is ((true, id): a box; (false, id): a row); where the records of the loops over functions lie, what they say, and which frame's they are; whose marks lie where. -/
structure Gh where
  blk : Nat → Option Nat
  rows : Nat → Option Row
  owner : Nat → Option (Bool × Nat)
  lp : Nat → Option (Nat × Loop × Nat)
  mark : Nat → Option Nat

def RCp (M : Mem) (G : Gh) : Cp → Value → Prop
  | .p v, u => R M v u
  | .mptr id off, u => ∃ b, G.blk id = some b ∧ u = .pointer (some ⟨b, off, none⟩)
def RC (M : Mem) (G : Gh) (cs : List Cp) (us : List Value) : Prop := us.length = cs.length ∧ ∀ (i : Nat) (c : Cp) (u : Value), cs[i]? = some c → us[i]? = some u → RCp M G c u
def RD (M : Mem) (G : Gh) : D → Value → Prop
  | .junk, _ => True
  | .undef, u => u = Go.undef
  | .p v, u => R M v u
  | .own id ver t xs, u => R M (.sl false t xs) u ∧ ∀ row, G.rows id = some row → ver ≤ row.ver ∧ (row.ver = ver → u = row.sv ∧ RL M (xs.map t.enc) row.us)
  | .mptr id off, u => ∃ b, G.blk id = some b ∧ u = .pointer (some ⟨b, off, none⟩)
  | .mclo f cs, u => ∃ us, u = .func (.func f) #[] us.toArray ∧ RC M G cs us
  | .yld lvl, u => ∃ l r h, G.lp lvl = some (l, r, h) ∧ u = .func (.yield l) #[] #[]
  | .row _ _, _ => True
  | .msl id sz lo len, u => ∃ (a : Option Addr) (n cap : Nat), u = .slice a n cap ∧ len = (n : Int) ∧ n ≤ cap ∧ 0 ≤ lo ∧ (0 < n → ∃ b, G.blk id = some b ∧ a = some ⟨b, lo.toNat * sz, none⟩)
  | .mel id sz i off, u => 0 ≤ i ∧ ∃ b, G.blk id = some b ∧ u = .pointer (some ⟨b, i.toNat * sz + off, none⟩)

theorem RCp.sub {M M' : Mem} (hs : Sub M M') {G : Gh} : ∀ {c : Cp} {u : Value}, RCp M G c u → RCp M' G c u
  | .p v, u, h => R.sub hs v u h
  | .mptr id off, u, h => h
theorem RC.sub {M M' : Mem} (hs : Sub M M') {G : Gh} {cs : List Cp} {us : List Value} (h : RC M G cs us) : RC M' G cs us := ⟨h.1, fun i c u hc hu => (h.2 i c u hc hu).sub hs⟩
theorem RD.sub {M M' : Mem} (hs : Sub M M') {G : Gh} : ∀ {d : D} {u : Value}, RD M G d u → RD M' G d u
  | .junk, _, _ => trivial
  | .undef, _, h => h
  | .p v, u, h => R.sub hs v u h
  | .own id ver t xs, u, h => ⟨R.sub hs _ u h.1, fun row hr => ⟨(h.2 row hr).1, fun hv => ⟨((h.2 row hr).2 hv).1, RL.sub hs _ _ ((h.2 row hr).2 hv).2⟩⟩⟩
  | .mptr id off, u, h => h
  | .mclo f cs, u, ⟨us, e, h⟩ => ⟨us, e, h.sub hs⟩
  | .yld lvl, u, h => h
  | .row _ _, _, _ => trivial
  | .msl _ _ _ _, u, h => h
  | .mel _ _ _ _, u, h => h

theorem RD.toV {M : Mem} {G : Gh} {d : D} {u : Value} {v : V} (h : RD M G d u) (hv : d.toV = some v) : R M v u := by
  cases d with
  | junk => simp [D.toV] at hv
  | undef => simp [D.toV] at hv
  | p x => simp [D.toV] at hv; subst hv; exact h
  | own id ver t xs => simp [D.toV] at hv; subst hv; exact h.1
  | mptr id off => simp [D.toV] at hv
  | mclo f cs => simp [D.toV] at hv
  | yld lvl => simp [D.toV] at hv
  | row t xs => simp [D.toV] at hv
  | msl id sz lo len => simp [D.toV] at hv
  | mel id sz i off => simp [D.toV] at hv

/-- A box lies in a block of the call's own, of which nothing is known for good. -/
def Box0 (M : Mem) (G : Gh) (B : Nat) (w : World) (id : Nat) (cs : List D) : Prop :=
  ∃ (b : Nat) (us : List Value) (t : TypeId), G.blk id = some b ∧ B ≤ b ∧ G.owner b = some (true, id) ∧ w.heap[b]? = some (.cells us.toArray t (0, 0)) ∧ cs.length ≤ us.length ∧
    (∀ (j : Nat) (d : D) (u : Value), cs[j]? = some d → us[j]? = some u → RD M G d u ∧ single u) ∧ (∀ a : Addr, a.block = b → M a = none) ∧ (id % 2 = 1 → t = bldTy ∧ us.length = 2)

/-- The same of a box whose cells may be a row. -/
def BoxOk (M : Mem) (G : Gh) (B : Nat) (w : World) (id : Nat) (cs : List D) : Prop := (isRow cs = true ∧ expand cs = []) ∨ Box0 M G B w id (expand cs)
theorem expand_of {cs : List D} (h : isRow cs = false) : expand cs = cs := by
  unfold expand
  split
  · cases h
  · rfl
theorem BoxOk.cells {M : Mem} {G : Gh} {B : Nat} {w : World} {id : Nat} {cs : List D} (h : BoxOk M G B w id cs) (hr : isRow cs = false) : Box0 M G B w id cs := by
  rcases h with h | h
  · rw [hr] at h; cases h.1
  · rw [expand_of hr] at h; exact h
theorem Box0.ok {M : Mem} {G : Gh} {B : Nat} {w : World} {id : Nat} {cs : List D} (h : Box0 M G B w id cs) (hr : isRow cs = false) : BoxOk M G B w id cs := .inr (by rw [expand_of hr]; exact h)
/-- What comes later: all that lay there lies as it lay; what is known is known still; of older blocks nothing more is known. -/
structure ExtS (M : Mem) (w : World) (M' : Mem) (w' : World) : Prop where
  same : ∀ a : Addr, a.block < w.heap.size → M' a = M a
  refs : ∀ a k x, M.refs a k = some x → M'.refs a k = some x
  ok : Ok M' w'
  below : Below w.heap.size w w'
  tab : Tabled w
/-- .. and there are no more references than there were. -/
structure Ext (M : Mem) (w : World) (M' : Mem) (w' : World) : Prop extends ExtS M w M' w' where
  refsEq : M'.refs = M.refs
theorem ExtS.make {M : Mem} {w : World} {M' : Mem} {w' : World} (ht : Tabled w) (same : ∀ a : Addr, a.block < w.heap.size → M' a = M a) (cell : ∀ a v, M' a = some v → w'.cell? a = some v) (old : ∀ a v, M' a = some v → a.block < w'.heap.size) (below : Below w.heap.size w w')
    (refs : ∀ a k x, M.refs a k = some x → M'.refs a k = some x) (oldR : ∀ a k b c, M'.refs a k = some (b, c) → b < w'.heap.size) : ExtS M w M' w' :=
  ⟨same, refs, ⟨⟨cell, old, oldR⟩, ht.kept below.block⟩, below, ht⟩
theorem Ext.make {M : Mem} {w : World} {M' : Mem} {w' : World} (ht : Tabled w) (same : ∀ a : Addr, a.block < w.heap.size → M' a = M a) (cell : ∀ a v, M' a = some v → w'.cell? a = some v) (old : ∀ a v, M' a = some v → a.block < w'.heap.size) (below : Below w.heap.size w w')
    (refs : M'.refs = M.refs) (oldR : ∀ a k b c, M'.refs a k = some (b, c) → b < w'.heap.size) : Ext M w M' w' :=
  ⟨ExtS.make ht same cell old below (fun a k x e => by rw [refs]; exact e) oldR, refs⟩
theorem ExtS.refl {M : Mem} {w : World} (h : Ok M w) : ExtS M w M w := ⟨fun _ _ => rfl, fun _ _ _ e => e, h, Below.refl _ _, h.laid⟩
theorem ExtS.trans {M M' M'' : Mem} {w w' w'' : World} (h : ExtS M w M' w') (k : ExtS M' w' M'' w'') : ExtS M w M'' w'' :=
  ⟨fun a ha => (k.same a (Nat.lt_of_lt_of_le ha h.below.size)).trans (h.same a ha), fun a i x e => k.refs a i x (h.refs a i x e), k.ok, h.below.trans (k.below.mono h.below.size), h.tab⟩
theorem ExtS.sub {M M' : Mem} {w w' : World} (h : ExtS M w M' w') (hm : Ok M w) : Sub M M' := ⟨fun a v e => (h.same a (hm.old a v e)).trans e, h.refs⟩
theorem Ext.refl {M : Mem} {w : World} (h : Ok M w) : Ext M w M w := ⟨ExtS.refl h, rfl⟩
theorem Ext.trans {M M' M'' : Mem} {w w' w'' : World} (h : Ext M w M' w') (k : Ext M' w' M'' w'') : Ext M w M'' w'' := ⟨h.toExtS.trans k.toExtS, k.refsEq.trans h.refsEq⟩
theorem Ext.sub {M M' : Mem} {w w' : World} (h : Ext M w M' w') (hm : Ok M w) : Sub M M' := ⟨fun a v e => (h.same a (hm.old a v e)).trans e, h.refs⟩
theorem lt_of_heap {w : World} {b : Nat} {o : Obj} (h : w.heap[b]? = some o) : b < w.heap.size := (Array.getElem?_eq_some_iff.1 h).1

theorem Box0.ext {M M' : Mem} {w w' : World} {G : Gh} {B id : Nat} {cs : List D} (hm : Ok M w) (h : Box0 M G B w id cs) (e : Ext M w M' w') : Box0 M' G B w' id cs := by
  obtain ⟨b, us, t, h1, h2, h3, h4, h5, h6, h7⟩ := h
  have hb := lt_of_heap h4
  exact ⟨b, us, t, h1, h2, h3, (e.below.block b hb).trans h4, h5, fun j d u hd hu => ⟨(h6 j d u hd hu).1.sub (e.sub hm), (h6 j d u hd hu).2⟩, fun a ha => (e.same a (by omega)).trans (h7.1 a ha), h7.2⟩

theorem BoxOk.ext {M M' : Mem} {w w' : World} {G : Gh} {B id : Nat} {cs : List D} (hm : Ok M w) (h : BoxOk M G B w id cs) (e : Ext M w M' w') : BoxOk M' G B w' id cs := by
  rcases h with h | h
  · exact .inl h
  · exact .inr (h.ext hm e)

/-- A new block that will not turn is known for good. -/
def know (M : Mem) (b : Nat) (us : List Value) : Mem := { M with cells := fun a => if a.block = b ∧ a.spot = none then us[a.off]? else M a }
theorem alloc_ext {M : Mem} {w : World} (hm : Ok M w) (us : List Value) (t : TypeId) :
    Ext M w (know M w.heap.size us) (w.alloc (.cells us.toArray t)) := by
  have hold : ∀ a v, know M w.heap.size us a = some v → (a.block = w.heap.size ∧ a.spot = none ∧ us[a.off]? = some v) ∨ (a.block < w.heap.size ∧ M a = some v) := by
    intro a v h
    simp only [know] at h
    split at h
    · rename_i hc; exact .inl ⟨hc.1, hc.2, h⟩
    · exact .inr ⟨hm.old a v h, h⟩
  refine Ext.make hm.laid (fun a ha => ?_) (fun a v h => ?_) (fun a v h => ?_) ((Below.refl _ _).alloc (Nat.le_refl _) _) rfl (fun a k b c e => Nat.lt_of_lt_of_le (hm.oldR a k b c e) (by rw [World.size_alloc]; omega))
  · simp only [know]; rw [if_neg (by omega)]
  · rcases hold a v h with ⟨h1, h2, h3⟩ | ⟨h1, h2⟩
    · have hh : (w.alloc (.cells us.toArray t)).heap[a.block]? = some (.cells us.toArray t (0, 0)) := by
        rw [h1]; show (w.heap.push _)[w.heap.size]? = _; simp
      unfold World.cell?
      rw [hh]
      simp [h2, h3]
    · have := hm.cell a v h2
      have hb : (w.alloc (.cells us.toArray t)).heap[a.block]? = w.heap[a.block]? := Below.heap_alloc _ _ _ h1
      unfold World.cell? at this ⊢
      rw [hb]; exact this
  · rcases hold a v h with ⟨h1, _, _⟩ | ⟨h1, _⟩ <;> (rw [World.size_alloc]; omega)
theorem know_new (M : Mem) (b : Nat) (us : List Value) (j : Nat) : know M b us ⟨b, j, none⟩ = us[j]? := by simp [know]
/-- A new block of which nothing is known. -/
theorem alloc_ext' {M : Mem} {w : World} (hm : Ok M w) (o : Obj) : Ext M w M (w.alloc o) := by
  refine Ext.make hm.laid (fun a ha => rfl) (fun a v h => ?_) (fun a v h => ?_) ((Below.refl _ _).alloc (Nat.le_refl _) _) rfl (fun a k b c e => Nat.lt_of_lt_of_le (hm.oldR a k b c e) (by rw [World.size_alloc]; omega))
  · have := hm.cell a v h
    have hb : (w.alloc o).heap[a.block]? = w.heap[a.block]? := Below.heap_alloc _ _ _ (hm.old a v h)
    unfold World.cell? at this ⊢
    rw [hb]; exact this
  · have := hm.old a v h; rw [World.size_alloc]; omega

theorem add_add (a : Addr) (i j : Nat) : (a.add i).add j = a.add (i + j) := by
  unfold Addr.add
  by_cases h1 : i = 0 <;> by_cases h2 : j = 0 <;> simp [h1, h2, Nat.add_assoc]
theorem add_block (a : Addr) (i : Nat) : (a.add i).block = a.block := by unfold Addr.add; split <;> rfl
theorem add_plain (b i : Nat) : (⟨b, 0, none⟩ : Addr).add i = ⟨b, i, none⟩ := by unfold Addr.add; split <;> simp_all
theorem add_plain' (b o i : Nat) : (⟨b, o, none⟩ : Addr).add i = ⟨b, o + i, none⟩ := by unfold Addr.add; split <;> simp_all

/-! ### The machine's side of an operation -/
def WideF (F : Fence) : Prop := F = Fence.wide ∨ ∃ l, F = Fence.wide.inRound l
theorem WideF.fn {F : Fence} (h : WideF F) (f : FuncId) : F.fn f := by
  rcases h with rfl | ⟨l, rfl⟩ <;> trivial
theorem WideF.depth {F : Fence} (h : WideF F) : F.depth = none := by
  rcases h with rfl | ⟨l, rfl⟩ <;> rfl
theorem WideF.room {F : Fence} (h : WideF F) (n : Nat) : F.room n := fun d hd => by rw [h.depth] at hd; cases hd
theorem WideF.calls {F : Fence} (h : WideF F) {n : Nat} {P : Program} {f : FuncId} {args : Array Value} {w : World} {Rr : Ending → World → Prop} (hc : Calls P f args w Rr) : CallsIn F n P f args w Rr := by
  have := (callsIn_wide (n := n)).2 hc
  rcases h with rfl | ⟨l, rfl⟩
  · exact this
  · exact this

section
variable {F : Fence} {n : Nat} {P : Program} {o : Oper} {a : Act} {w : World} {K : Act → World → Prop} {Q : Exit → Act → World → Prop}

theorem semAt_eq (h : ∀ c, o.op ≠ .defer c) : o.semAt F.round a.eval = execOp a.eval o := by
  cases hr : F.round with
  | none => rfl
  | some l => exact Oper.semAt_some l a.eval o h

theorem wpIn_val (hF : WideF F) (hd : ∀ c, o.op ≠ .defer c) {v : Value} {w' : World} (h : (execOp a.eval o).run P w = .ok (.value v) w') (hk : K (a.put o.dst v) w') : o.wpIn F n P a w K Q := by
  refine ⟨fun f _ => hF.fn f, ?_⟩
  rw [semAt_eq hd, h]
  exact hk
theorem wpIn_unit (hF : WideF F) (hd : ∀ c, o.op ≠ .defer c) {w' : World} (h : (execOp a.eval o).run P w = .ok .skip w') (hk : K (a.put o.dst undef) w') : o.wpIn F n P a w K Q := by
  refine ⟨fun f _ => hF.fn f, ?_⟩
  rw [semAt_eq hd, h]
  exact hk
theorem wpIn_enter (hF : WideF F) (hd : ∀ c, o.op ≠ .defer c) {f : FuncId} {args : Array Value} {w' : World} (h : (execOp a.eval o).run P w = .ok (.enter f args) w')
    (hk : Calls P f args w' fun e w'' => ∃ v, e = .returned v ∧ K (a.put o.dst v) w'') : o.wpIn F n P a w K Q := by
  refine ⟨fun f _ => hF.fn f, ?_⟩
  rw [semAt_eq hd, h, Oper.uponIn_enter]
  refine ⟨fun hs => ?_, hF.calls (hk.mono ?_)⟩
  · rw [hF.depth] at hs
    cases hs
  · rintro e w'' ⟨v, rfl, hv⟩
    exact hv
end

/-- A function that lies in the program and has a body. -/
def There (P : Program) (f : FuncId) : Prop := ∃ fn, P.funcs[f]? = some fn ∧ fn.body.isSome = true ∧ (fn.name == "runtime.NumGoroutine") = false
/-- A call with these contents comes to this content, in whatever world. -/
def Sound (P : Program) (f : FuncId) (xs : List V) (r : V) : Prop :=
  There P f ∧ ∀ (M : Mem) (w : World) (us : List Value), Ok M w → RL M xs us → Calls P f us.toArray w fun e w' => ∃ v M', e = .returned v ∧ R M' r v ∧ Ext M w M' w'
/-- A function that copies a slice, in whatever world: what comes back is a slice of the same length, and its cells lie in a block of the call's own. -/
def CloneOk (P : Program) (f : FuncId) (sz bytes : Nat) : Prop := 0 < sz ∧ There P f ∧
  (∀ (n c : Nat) (w : World), Calls P f #[.slice none n c] w fun e w' => e = .returned (.slice none 0 0) ∧ w' = w) ∧
  ∀ (ad : Addr) (n c : Nat) (news : List Value) (w : World), news.length = n * sz → n * bytes ≤ 140737488355328 → (∀ j u, news[j]? = some u → w.cell? (ad.add j) = some u) → (∀ u ∈ news, u.oneCell' = true) →
    Calls P f #[.slice (some ad) n c] w fun e w' => ∃ v' t, e = .returned v' ∧ w'.ownsRow w.heap.size t sz v' n news ∧ Below w.heap.size w w'
/-- (*strings.Builder).copyCheck: a new builder comes to hold its own address. -/
def BccOk (P : Program) (f : FuncId) : Prop := There P f ∧ ∀ (b : Nat) (v : Value) (w : World),
  (w.heap[b]? = some (.cells #[.pointer none, v] bldTy (0, 0)) → Calls P f #[.pointer (some ⟨b, 0, none⟩)] w fun e w' => e = .returned (.tuple #[]) ∧ w' = w.setCell ⟨b, 0, none⟩ (.pointer (some ⟨b, 0, none⟩))) ∧
  (w.heap[b]? = some (.cells #[.pointer (some ⟨b, 0, none⟩), v] bldTy (0, 0)) → Calls P f #[.pointer (some ⟨b, 0, none⟩)] w fun e w' => e = .returned (.tuple #[]) ∧ w' = w)
/-- (*strings.Builder).String: the bytes; no other block turns. -/
def BstrOk (P : Program) (f : FuncId) : Prop := There P f ∧ ∀ (b g cap : Nat) (p : Value) (cur : Array Value) (l : List UInt8) (w : World), l ≠ [] → l.length ≤ 140737488355328 →
  w.heap[b]? = some (.cells #[p, .slice (some ⟨g, 0, none⟩) l.length cap] bldTy (0, 0)) → w.heap[g]? = some (.cells cur byTy (0, 0)) → l.length ≤ cap → cur.size = cap →
  (∀ j x, l[j]? = some x → w.cell? ⟨g, j, none⟩ = some (.int .u8 x.toNat)) →
  Calls P f #[.pointer (some ⟨b, 0, none⟩)] w fun e w' => e = .returned (.string ⟨l.toArray⟩) ∧ Below 0 w w' ∧ (∀ k, k ≠ g → w'.heap[k]? = w.heap[k]?) ∧ ∃ fz, w'.heap[g]? = some (.cells cur byTy fz)
structure CfOk (P : Program) (cf : FuncId → List V → Option V) : Prop where
  calls : ∀ f xs r, cf f xs = some r → Sound P f xs r
  clones : ∀ f sz bytes, cloneFn f = some (sz, bytes) → CloneOk P f sz bytes
  bccs : ∀ f, bccFn f = true → BccOk P f
  bstrs : ∀ f, bstrFn f = true → BstrOk P f

theorem run_callFunc {P : Program} {f : FuncId} (h : There P f) (args : Array Value) (w : World) : (callFunc f args).run P w = .ok (.enter f args) w := by
  obtain ⟨fn, h1, h2, h3⟩ := h
  obtain ⟨c, hc⟩ := Option.isSome_iff_exists.1 h2
  have h3' : fn.name ≠ "runtime.NumGoroutine" := by simpa using h3
  simp [callFunc, program, Sem.run, Sem.run_bind, h1, h3', hc]

end Go.Evl
