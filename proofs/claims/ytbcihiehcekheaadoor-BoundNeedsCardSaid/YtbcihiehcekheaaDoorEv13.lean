/-
  A value semantics for the program's code, part 13: the state, and the operations that turn it.
  Conditions: none; this text holds definitions and lemmas of their own.
-/
import Derived.Test.YtbcihiehcekheaaDoorEv12
namespace Go.Evl
open Go Go.RowKit
set_option linter.unusedVariables false
set_option linter.unusedSimpArgs false

def RowOk (M : Mem) (G : Gh) (B : Nat) (w : World) (id v : Nat) : Prop :=
  ∃ row, G.rows id = some row ∧ row.ver = v ∧ RowAt (kOf id) M B w (fun b => G.owner b = some (false, id)) row.sv row.us row.sz
/-- The slots of the frames, from the newest on. -/
def Frames (M : Mem) (G : Gh) (rs : List (List (Nat × D))) (ts : List (Array Value)) : Prop :=
  rs.length = ts.length ∧ ∀ (i : Nat) (regs : List (Nat × D)) (tmps : Array Value), rs[i]? = some regs → ts[i]? = some tmps → ∀ t d, get regs t = some d → RD M G d (tmps.getD t undef)
theorem Frames.map {M M' : Mem} {G G' : Gh} {rs : List (List (Nat × D))} {ts : List (Array Value)} (h : Frames M G rs ts) {f : D → D} (hf : ∀ d u, RD M G d u → RD M' G' (f d) u) : Frames M' G' (rs.map (mapV f)) ts := by
  refine ⟨by simp [h.1], fun i regs tmps hr ht t d hd => ?_⟩
  rw [List.getElem?_map] at hr
  obtain ⟨r0, h0, rfl⟩ := Option.map_eq_some_iff.1 hr
  obtain ⟨d0, hd0, rfl⟩ := get_mapV_some hd
  exact hf _ _ (h.2 i r0 tmps h0 ht t d0 hd0)
theorem Frames.imp {M M' : Mem} {G G' : Gh} {rs : List (List (Nat × D))} {ts : List (Array Value)} (h : Frames M G rs ts) (hf : ∀ d u, RD M G d u → RD M' G' d u) : Frames M' G' rs ts :=
  ⟨h.1, fun i regs tmps hr ht t d hd => hf _ _ (h.2 i regs tmps hr ht t d hd)⟩
theorem Frames.head {M : Mem} {G : Gh} {r r' : List (Nat × D)} {rs : List (List (Nat × D))} {t t' : Array Value} {ts : List (Array Value)} (h : Frames M G (r :: rs) (t :: ts)) (hn : ∀ j d, get r' j = some d → RD M G d (t'.getD j undef)) : Frames M G (r' :: rs) (t' :: ts) := by
  refine ⟨by simpa using h.1, fun i regs tmps hr ht j d hd => ?_⟩
  cases i with
  | zero =>
    simp at hr ht
    subst hr; subst ht
    exact hn j d hd
  | succ i => exact h.2 (i + 1) regs tmps (by simpa using hr) (by simpa using ht) j d hd
theorem Frames.cons {M : Mem} {G : Gh} {r : List (Nat × D)} {rs : List (List (Nat × D))} {t : Array Value} {ts : List (Array Value)} (h : Frames M G rs ts) (hn : ∀ j d, get r j = some d → RD M G d (t.getD j undef)) : Frames M G (r :: rs) (t :: ts) := by
  refine ⟨by simpa using h.1, fun i regs tmps hr ht j d hd => ?_⟩
  cases i with
  | zero =>
    simp at hr ht
    subst hr; subst ht
    exact hn j d hd
  | succ i => exact h.2 i regs tmps (by simpa using hr) (by simpa using ht) j d hd
theorem Frames.tail {M : Mem} {G : Gh} {r : List (Nat × D)} {rs : List (List (Nat × D))} {t : Array Value} {ts : List (Array Value)} (h : Frames M G (r :: rs) (t :: ts)) : Frames M G rs ts :=
  ⟨by simpa using h.1, fun i regs tmps hr ht => h.2 (i + 1) regs tmps (by simpa using hr) (by simpa using ht)⟩
theorem Frames.here {M : Mem} {G : Gh} {r : List (Nat × D)} {rs : List (List (Nat × D))} {t : Array Value} {ts : List (Array Value)} (h : Frames M G (r :: rs) (t :: ts)) : ∀ j d, get r j = some d → RD M G d (t.getD j undef) :=
  h.2 0 r t rfl rfl

def Ex.code : Ex → Option Code
  | .normal => none
  | .exit id => some (.exit id)
  | .ret => some .ret
def Ps.st : Ps → LoopState
  | .ready => .ready
  | .busy => .busy
  | .done _ => .done
def Ps.pd : Ps → Option Code
  | .done e => e.code
  | _ => none
def recAt (r : Loop) (ps : Ps) : Loop := { r with state := ps.st, pending := ps.pd }

/-- The arenas lie in blocks of the call's own; every reference has its part of an arena, and a block of its own. -/
structure ArsOk (M : Mem) (B : Nat) (w : World) (ars : List (Nat × Arena)) : Prop where
  map : ∀ (a : Nat) (tk tv : Ty) (xs : List (List (tk.D × tv.D × Unit))), get ars a = some (.mp tk tv xs) → ∀ (k : Nat) (es : List (tk.D × tv.D × Unit)), xs[k]? = some es →
    ∃ (b c : Nat) (ents : Array MapEntry) (clock : Nat), M.refs a k = some (b, c) ∧ B ≤ b ∧ w.heap[b]? = some (.map ents clock) ∧ ents.size = es.length ∧
      ∀ (i : Nat) (e : tk.D × tv.D × Unit) (x : MapEntry), es[i]? = some e → ents[i]? = some x → RT M tk e.1 x.key ∧ RT M tv e.2.1 x.val
  refs : ∀ (a : Nat) (k : Int) (x : Nat × Nat), M.refs a k = some x → 0 ≤ k ∧ ∃ ar, get ars a = some ar ∧ k < ar.size
  inj : ∀ (a a' : Nat) (k k' : Int) (b c c' : Nat), M.refs a k = some (b, c) → M.refs a' k' = some (b, c') → a = a' ∧ k = k'
theorem ArsOk.still {M M' : Mem} {B : Nat} {w w' : World} {ars : List (Nat × Arena)} (h : ArsOk M B w ars) (hs : Sub M M') (hr : M'.refs = M.refs) (hk : ∀ (b : Nat) (es : Array MapEntry) (cl : Nat), w.heap[b]? = some (.map es cl) → w'.heap[b]? = some (.map es cl)) : ArsOk M' B w' ars := by
  refine ⟨fun a tk tv xs ha k es hes => ?_, fun a k x hx => h.refs a k x (by rw [← hr]; exact hx), fun a a' k k' b c c' h1 h2 => h.inj a a' k k' b c c' (by rw [← hr]; exact h1) (by rw [← hr]; exact h2)⟩
  obtain ⟨b, c, ents, clock, h1, h2, h3, h4, h5⟩ := h.map a tk tv xs ha k es hes
  exact ⟨b, c, ents, clock, by rw [hr]; exact h1, h2, hk b _ _ h3, h4, fun i e x he hx => ⟨RT.sub hs _ _ _ (h5 i e x he hx).1, RT.sub hs _ _ _ (h5 i e x he hx).2⟩⟩
/-- The small state stands for the frames and the world; 'M0', 'w0': what was known, and what was, when the outermost call began; 'ts': the frames' slots, from the newest on. -/
structure SR (M0 : Mem) (w0 : World) (M : Mem) (G : Gh) (ts : List (Array Value)) (w : World) (s : St) : Prop where
  ext : ExtS M0 w0 M w
  frames : Frames M G (s.regs :: s.stk) ts
  boxes : ∀ id cs, get s.boxes id = some cs → BoxOk M G w0.heap.size w id cs
  rows : ∀ id v, get s.rows id = some v → RowOk M G w0.heap.size w id v
  loops : ∀ lvl ps, get s.lps lvl = some ps → ∃ l r h, G.lp lvl = some (l, r, h) ∧ w.heap[l]? = some (.loop (recAt r ps))
  recs : ∀ lvl l r h, G.lp lvl = some (l, r, h) → (∃ ps, get s.lps lvl = some ps) ∧ w0.heap.size ≤ l ∧ h < ts.length ∧ ts[ts.length - 1 - h]? = some r.tmps
  inj : ∀ lvl lvl' l r r' h h', G.lp lvl = some (l, r, h) → G.lp lvl' = some (l, r', h') → lvl = lvl'
  marks : (∀ b h, G.mark b = some h → w0.heap.size ≤ b ∧ w.heap[b]? = some (.deferred (some []))) ∧ ArsOk M w0.heap.size w s.ars

theorem SR.reads {M0 : Mem} {w0 : World} {M : Mem} {G : Gh} {a : Act} {ts : List (Array Value)} {w : World} {s : St} (h : SR M0 w0 M G (a.tmps :: ts) w s) (us : List Nat) : Reads M G a (rdA s.regs) us := by
  refine ⟨fun v => rfl, fun t _ => ?_⟩
  simp only [rdA]
  cases hg : get s.regs t with
  | none => trivial
  | some d => exact h.frames.here t d hg

/-! ### One number is given up -/
theorem says_kill (d : D) (id : Nat) : (d.kill id).says id = false := by
  cases d with
  | junk => rfl
  | undef => rfl
  | p v => rfl
  | yld l => rfl
  | own j ver ty xs =>
    simp only [D.kill]
    by_cases h : j = id
    · subst h; simp [D.says]
    · have : (j == id) = false := by simpa using h
      simp [this, D.says]
  | mptr j off =>
    simp only [D.kill]
    by_cases h : j = id
    · subst h; simp [D.says]
    · have : (j == id) = false := by simpa using h
      simp [this, D.says]
  | mclo f cs =>
    simp only [D.kill]
    cases h : saysC id cs with
    | true => rfl
    | false => exact h
  | row t xs => rfl
  | msl j sz lo len =>
    simp only [D.kill]
    by_cases h : j = id
    · subst h; simp [D.says]
    · have : (j == id) = false := by simpa using h
      simp [this, D.says]
  | mel j sz i off =>
    simp only [D.kill]
    by_cases h : j = id
    · subst h; simp [D.says]
    · have : (j == id) = false := by simpa using h
      simp [this, D.says]
theorem RD.kill {M : Mem} {G : Gh} {d : D} {u : Value} (h : RD M G d u) (id : Nat) : RD M G (d.kill id) u := by
  cases d with
  | junk => trivial
  | undef => exact h
  | p v => exact h
  | yld l => exact h
  | own j ver ty xs =>
    simp only [D.kill]
    cases (j == id)
    · exact h
    · exact h.1
  | mptr j off =>
    simp only [D.kill]
    cases (j == id)
    · exact h
    · trivial
  | mclo f cs =>
    simp only [D.kill]
    cases saysC id cs
    · exact h
    · trivial
  | row t xs => trivial
  | msl j sz lo len =>
    simp only [D.kill]
    cases (j == id)
    · exact h
    · trivial
  | mel j sz i off =>
    simp only [D.kill]
    cases (j == id)
    · exact h
    · trivial
theorem saysC_false {id : Nat} : ∀ {cs : List Cp}, saysC id cs = false → ∀ c ∈ cs, c.says id = false
  | [], _, c, hc => by simp at hc
  | c :: cs, h, d, hd => by
    simp only [saysC, Bool.or_eq_false_iff] at h
    cases hd with
    | head => exact h.1
    | tail _ hd => exact saysC_false h.2 d hd
theorem RCp.upd {M M' : Mem} {G G' : Gh} {c : Cp} {u : Value} {id : Nat} (h : RCp M G c u) (hs : Sub M M') (hn : c.says id = false) (hG : ∀ j, j ≠ id → G'.blk j = G.blk j) : RCp M' G' c u := by
  cases c with
  | p v => exact R.sub hs _ _ h
  | mptr j off =>
    have hj : j ≠ id := by simpa [Cp.says] using hn
    obtain ⟨b, hb, hu⟩ := h
    exact ⟨b, by rw [hG j hj]; exact hb, hu⟩
theorem RD.upd {M M' : Mem} {G G' : Gh} {d : D} {u : Value} {id : Nat} (h : RD M G d u) (hs : Sub M M') (hn : d.says id = false) (hG : ∀ j, j ≠ id → G'.blk j = G.blk j ∧ G'.rows j = G.rows j) (hlp : G'.lp = G.lp) : RD M' G' d u := by
  cases d with
  | junk => trivial
  | undef => exact h
  | p v => exact R.sub hs _ _ h
  | own j ver ty xs =>
    have hj : j ≠ id := by simpa [D.says] using hn
    refine ⟨R.sub hs _ _ h.1, fun row hr => ?_⟩
    rw [(hG j hj).2] at hr
    exact ⟨(h.2 row hr).1, fun hv => ⟨((h.2 row hr).2 hv).1, RL.sub hs _ _ ((h.2 row hr).2 hv).2⟩⟩
  | mptr j off =>
    have hj : j ≠ id := by simpa [D.says] using hn
    obtain ⟨b, hb, hu⟩ := h
    exact ⟨b, by rw [(hG j hj).1]; exact hb, hu⟩
  | mclo f cs =>
    obtain ⟨us, e, hl, hc⟩ := h
    exact ⟨us, e, hl, fun i c u hi hu => (hc i c u hi hu).upd hs (saysC_false hn c (List.mem_of_getElem? hi)) (fun j hj => (hG j hj).1)⟩
  | yld lvl =>
    obtain ⟨l, r, h', k, e⟩ := h
    exact ⟨l, r, h', by rw [hlp]; exact k, e⟩
  | row t xs => trivial
  | msl j sz lo len =>
    have hj : j ≠ id := by simpa [D.says] using hn
    obtain ⟨a, n, cap, e1, e2, e3, e4, hb⟩ := h
    exact ⟨a, n, cap, e1, e2, e3, e4, fun hp => by rw [(hG j hj).1]; exact hb hp⟩
  | mel j sz i off =>
    have hj : j ≠ id := by simpa [D.says] using hn
    obtain ⟨hi, b, hb, hu⟩ := h
    exact ⟨hi, b, by rw [(hG j hj).1]; exact hb, hu⟩
theorem RD.killY {M : Mem} {G G' : Gh} {d : D} {u : Value} {lvl : Nat} (h : RD M G d u) (hb : G'.blk = G.blk) (hr : G'.rows = G.rows) (hl : ∀ j, j ≠ lvl → G'.lp j = G.lp j) : RD M G' (d.killY lvl) u := by
  cases d with
  | junk => trivial
  | undef => exact h
  | p v => exact h
  | own j ver ty xs => exact ⟨h.1, fun row hrow => h.2 row (by rw [← hr]; exact hrow)⟩
  | mptr j off => obtain ⟨b, k, e⟩ := h; exact ⟨b, by rw [hb]; exact k, e⟩
  | mclo f cs =>
    obtain ⟨us, e, hlen, hc⟩ := h
    refine ⟨us, e, hlen, fun i c u hi hu => ?_⟩
    have := hc i c u hi hu
    cases c with
    | p v => exact this
    | mptr j off => obtain ⟨b, k, e⟩ := this; exact ⟨b, by rw [hb]; exact k, e⟩
  | yld j =>
    simp only [D.killY, Bool.cond_eq_ite, beq_iff_eq]
    split
    · trivial
    · rename_i hj
      obtain ⟨l, r, h', k, e⟩ := h
      exact ⟨l, r, h', by rw [hl j hj]; exact k, e⟩
  | row t xs => trivial
  | msl j sz lo len =>
    obtain ⟨a, n, cap, e1, e2, e3, e4, hb'⟩ := h
    exact ⟨a, n, cap, e1, e2, e3, e4, fun hp => by rw [hb]; exact hb' hp⟩
  | mel j sz i off => obtain ⟨hi, b, k, e⟩ := h; exact ⟨hi, b, by rw [hb]; exact k, e⟩

theorem Box0.upd {M M' : Mem} {G G' : Gh} {B : Nat} {w w' : World} {id : Nat} {cs cs' : List D} (h : Box0 M G B w id cs) (hblk : G'.blk id = G.blk id)
    (hb : ∀ b, G.owner b = some (true, id) → b < w.heap.size → (∃ cs t fr, w.heap[b]? = some (.cells cs t fr)) → w'.heap[b]? = w.heap[b]? ∧ G'.owner b = G.owner b ∧ ∀ a : Addr, a.block = b → M' a = M a)
    (hl : cs'.length = cs.length) (hd : ∀ (j : Nat) (d' : D) (u : Value), cs'[j]? = some d' → (∀ d, cs[j]? = some d → RD M G d u) → RD M' G' d' u) : Box0 M' G' B w' id cs' := by
  obtain ⟨b, us, t, h1, h2, h3, h4, h5, h6, h7⟩ := h
  obtain ⟨k1, k2, k3⟩ := hb b h3 (lt_of_heap h4) ⟨_, _, _, h4⟩
  refine ⟨b, us, t, hblk.trans h1, h2, k2.trans h3, k1.trans h4, by rw [hl]; exact h5, fun j d u hj hu => ?_, fun a ha => (k3 a ha).trans (h7.1 a ha), h7.2⟩
  have hlt : j < cs.length := by rw [← hl]; exact (List.getElem?_eq_some_iff.1 hj).1
  have hcj : cs[j]? = some cs[j] := List.getElem?_eq_getElem hlt
  refine ⟨hd j d u hj (fun e he => (h6 j e u he hu).1), (h6 j _ u hcj hu).2⟩
theorem rowCs_p {t : Ty} {xs : List t.D} {d : D} (h : d ∈ rowCs t xs) : ∃ v, d = .p v := by
  unfold rowCs at h
  obtain ⟨x, _, h⟩ := List.mem_flatMap.1 h
  obtain ⟨v, _, rfl⟩ := List.mem_map.1 h
  exact ⟨v, rfl⟩
/-- A turn of each cell that leaves rows as they are. -/
structure Fixes (f : D → D) : Prop where
  row : ∀ t xs, f (.row t xs) = .row t xs
  only : ∀ d t xs, f d = .row t xs → d = .row t xs
theorem Fixes.isRow {f : D → D} (h : Fixes f) (cs : List D) : isRow (cs.map f) = isRow cs := by
  match cs with
  | [] => rfl
  | [d] =>
    cases hd : f d with
    | row t xs =>
      rw [h.only d t xs hd]
      simp only [List.map_cons, List.map_nil, h.row]
    | _ =>
      simp only [List.map_cons, List.map_nil, hd]
      cases d <;> first | rfl | (rw [h.row] at hd; cases hd)
  | d :: e :: r => cases hd : f d <;> cases d <;> simp [Go.Evl.isRow]
theorem Fixes.same {f : D → D} (h : Fixes f) {cs : List D} (hr : Go.Evl.isRow cs = true) : cs.map f = cs := by
  match cs, hr with
  | [.row t xs], _ => simp [h.row]
theorem fixes_kill (id : Nat) : Fixes (D.kill id) := ⟨fun _ _ => rfl, fun d t xs h => by
  cases d <;> simp only [D.kill] at h <;> first | exact h | cases h | (rename_i j _ _ _; cases hj : j == id <;> rw [hj] at h <;> cases h) | (rename_i j _ _; cases hj : j == id <;> rw [hj] at h <;> cases h) | (rename_i j _; cases hj : j == id <;> rw [hj] at h <;> cases h) | (rename_i f cs; cases hj : saysC id cs <;> rw [hj] at h <;> cases h)⟩
theorem fixes_killY (lvl : Nat) : Fixes (D.killY lvl) := ⟨fun _ _ => rfl, fun d t xs h => by
  cases d <;> simp only [D.killY] at h <;> first | exact h | cases h | (rename_i j; cases hj : j == lvl <;> rw [hj] at h <;> cases h)⟩
theorem fixes_fresh (rows : List (Nat × Nat)) : Fixes (D.fresh rows) := ⟨fun _ _ => rfl, fun d t xs h => by
  cases d <;> simp only [D.fresh] at h <;> first | exact h | cases h | (split at h <;> first | cases h | (rename_i v _; cases hj : v == _ <;> rw [hj] at h <;> cases h))⟩
theorem fixes_norm : Fixes D.norm := ⟨fun _ _ => rfl, fun d t xs h => by
  cases d <;> simp only [D.norm] at h <;> first | exact h | cases h⟩
theorem fixes_id : Fixes (fun d => d) := ⟨fun _ _ => rfl, fun _ _ _ h => h⟩
theorem BoxOk.upd {M M' : Mem} {G G' : Gh} {B : Nat} {w w' : World} {id : Nat} {cs : List D} {f : D → D} (h : BoxOk M G B w id cs) (hf : Fixes f) (hs : Sub M M') (hblk : G'.blk id = G.blk id)
    (hb : ∀ b, G.owner b = some (true, id) → b < w.heap.size → (∃ cs t fr, w.heap[b]? = some (.cells cs t fr)) → w'.heap[b]? = w.heap[b]? ∧ G'.owner b = G.owner b ∧ ∀ a : Addr, a.block = b → M' a = M a)
    (hd : ∀ (d : D) (u : Value), RD M G d u → RD M' G' (f d) u) : BoxOk M' G' B w' id (cs.map f) := by
  cases hr : isRow cs with
  | true =>
    rw [hf.same hr]
    rcases h with h | h
    · exact .inl h
    · refine .inr (h.upd hblk hb rfl (fun j d' u hj hu => ?_))
      have hd' := hu d' hj
      have hm := List.mem_of_getElem? hj
      match cs, hr with
      | [.row t xs], _ =>
        obtain ⟨v, rfl⟩ := rowCs_p (t := t) (xs := xs) hm
        exact R.sub hs _ _ hd'
  | false =>
    refine Box0.ok ((h.cells hr).upd hblk hb (by simp) (fun j d' u hj hu => ?_)) (by rw [hf.isRow, hr])
    rw [List.getElem?_map] at hj
    obtain ⟨d0, hd0, rfl⟩ := Option.map_eq_some_iff.1 hj
    exact hd _ _ (hu d0 hd0)
theorem BoxOk.upd' {M M' : Mem} {G G' : Gh} {B : Nat} {w w' : World} {id : Nat} {cs : List D} (h : BoxOk M G B w id cs) (hs : Sub M M') (hblk : G'.blk id = G.blk id)
    (hb : ∀ b, G.owner b = some (true, id) → b < w.heap.size → (∃ cs t fr, w.heap[b]? = some (.cells cs t fr)) → w'.heap[b]? = w.heap[b]? ∧ G'.owner b = G.owner b ∧ ∀ a : Addr, a.block = b → M' a = M a)
    (hd : ∀ (d : D) (u : Value), RD M G d u → RD M' G' d u) : BoxOk M' G' B w' id cs := by
  have := h.upd fixes_id hs hblk hb hd
  rwa [List.map_id'] at this

/-- What stays: the loops' records and the marks (no row of cells lies there). -/
theorem SR.still {M0 : Mem} {w0 : World} {M : Mem} {G : Gh} {ts : List (Array Value)} {w w' : World} {s : St} (h : SR M0 w0 M G ts w s) (hk : ∀ (b : Nat) (o : Obj), w.heap[b]? = some o → (∀ cs t fr, o ≠ .cells cs t fr) → w'.heap[b]? = some o) :
    (∀ lvl ps, get s.lps lvl = some ps → ∃ l r h, G.lp lvl = some (l, r, h) ∧ w'.heap[l]? = some (.loop (recAt r ps))) ∧ ((∀ b h, G.mark b = some h → w0.heap.size ≤ b ∧ w'.heap[b]? = some (.deferred (some []))) ∧ ArsOk M w0.heap.size w' s.ars) :=
  ⟨fun lvl ps hl => by
    obtain ⟨l, r, h', k1, k2⟩ := h.loops lvl ps hl
    exact ⟨l, r, h', k1, hk l _ k2 (by simp)⟩, fun b hh hm => ⟨(h.marks.1 b hh hm).1, hk b _ (h.marks.1 b hh hm).2 (by simp)⟩, h.marks.2.still (Sub.refl M) rfl (fun b es cl e => hk b _ e (by simp))⟩
/-- The references of another memory. -/
theorem marks_mono {M M' : Mem} {B : Nat} {w : World} {ars : List (Nat × Arena)} {Q : Prop} (k : Q ∧ ArsOk M B w ars) (hs : Sub M M') (hr : M'.refs = M.refs) : Q ∧ ArsOk M' B w ars := ⟨k.1, k.2.still hs hr (fun _ _ _ e => e)⟩

section
variable {M0 : Mem} {w0 : World} {M : Mem} {G : Gh} {ts : List (Array Value)} {w : World} {s : St}

/-- A number is given up, and what it stands for from now on may be new. -/
theorem SR.fresh (h : SR M0 w0 M G ts w s) (id : Nat) {M' : Mem} {G' : Gh} {w' : World} (hs : Sub M M') (hrf : M'.refs = M.refs) (he : ExtS M0 w0 M' w') (hG : ∀ j, j ≠ id → G'.blk j = G.blk j ∧ G'.rows j = G.rows j) (hlp : G'.lp = G.lp) (hmk : G'.mark = G.mark)
    (hb : ∀ b, b < w.heap.size → w'.heap[b]? = w.heap[b]? ∧ G'.owner b = G.owner b ∧ ∀ a : Addr, a.block = b → M' a = M a) : SR M0 w0 M' G' ts w' (s.kill id) := by
  obtain ⟨k1, k2⟩ := h.still (w' := w') (fun b o ho _ => (hb b (lt_of_heap ho)).1.trans ho)
  refine ⟨he, ?_, fun j cs hj => ?_, fun j v hj => ?_, by rw [hlp]; exact k1, by rw [hlp]; exact h.recs, by rw [hlp]; exact h.inj, by rw [hmk]; exact marks_mono k2 hs hrf⟩
  · exact h.frames.map (fun d u hd => (hd.kill id).upd hs (says_kill d id) hG hlp)
  · obtain ⟨hne, hj⟩ := get_del_some hj
    obtain ⟨cs0, h0, rfl⟩ := get_mapV_some hj
    refine (h.boxes j cs0 h0).upd (fixes_kill id) hs (hG j hne).1 (fun b ho hlt _ => hb b hlt) (fun d u hu => ?_)
    exact (hu.kill id).upd hs (says_kill d id) hG hlp
  · obtain ⟨hne, hj⟩ := get_del_some hj
    obtain ⟨row, h1, h2, h3⟩ := h.rows j v hj
    refine ⟨row, (hG j hne).2.trans h1, h2, h3.upd hs (fun b ho hlt => ?_)⟩
    obtain ⟨k1, k2, k3⟩ := hb b hlt
    exact ⟨k1, k2.trans ho, k3⟩

/-- The same where the blocks of a row of that number turn. -/
theorem SR.freshRow (h : SR M0 w0 M G ts w s) (id : Nat) {w' : World} (he : ExtS M0 w0 M w')
    (hb : ∀ b, b < w.heap.size → G.owner b ≠ some (false, id) → w'.heap[b]? = w.heap[b]?) (hk : ∀ (b : Nat) (o : Obj), w.heap[b]? = some o → (∀ cs t fr, o ≠ .cells cs t fr) → w'.heap[b]? = some o) : SR M0 w0 M G ts w' (s.kill id) := by
  obtain ⟨k1, k2⟩ := h.still (w' := w') hk
  refine ⟨he, ?_, fun j cs hj => ?_, fun j v hj => ?_, k1, h.recs, h.inj, k2⟩
  · exact h.frames.map (fun d u hd => (hd.kill id).upd (Sub.refl M) (says_kill d id) (fun _ _ => ⟨rfl, rfl⟩) rfl)
  · obtain ⟨hne, hj⟩ := get_del_some hj
    obtain ⟨cs0, h0, rfl⟩ := get_mapV_some hj
    refine (h.boxes j cs0 h0).upd (fixes_kill id) (Sub.refl M) rfl (fun b ho hlt _ => ⟨hb b hlt (by rw [ho]; simp), rfl, fun _ _ => rfl⟩) (fun d u hu => ?_)
    exact (hu.kill id).upd (Sub.refl M) (says_kill d id) (fun _ _ => ⟨rfl, rfl⟩) rfl
  · obtain ⟨hne, hj⟩ := get_del_some hj
    obtain ⟨row, h1, h2, h3⟩ := h.rows j v hj
    refine ⟨row, h1, h2, h3.upd (Sub.refl M) (fun b ho hlt => ⟨hb b hlt (by rw [ho]; simp; exact hne), ho, fun _ _ => rfl⟩)⟩
theorem SR.putBox (h : SR M0 w0 M G ts w s) {id : Nat} {cs : List D} (hb : BoxOk M G w0.heap.size w id cs) : SR M0 w0 M G ts w { s with boxes := put s.boxes id cs } := by
  refine ⟨h.ext, h.frames, fun j cs' hj => ?_, h.rows, h.loops, h.recs, h.inj, h.marks⟩
  by_cases e : j = id
  · subst e
    simp only [get_put_same, Option.some.injEq] at hj
    subst hj; exact hb
  · rw [get_put_ne _ _ e] at hj
    exact h.boxes j cs' hj
theorem SR.putRow (h : SR M0 w0 M G ts w s) {id v : Nat} (hr : RowOk M G w0.heap.size w id v) : SR M0 w0 M G ts w { s with rows := put s.rows id v } := by
  refine ⟨h.ext, h.frames, h.boxes, fun j v' hj => ?_, h.loops, h.recs, h.inj, h.marks⟩
  by_cases e : j = id
  · subst e
    simp only [get_put_same, Option.some.injEq] at hj
    subst hj; exact hr
  · rw [get_put_ne _ _ e] at hj
    exact h.rows j v' hj

theorem SR.old (h : SR M0 w0 M G ts w s) : w0.heap.size ≤ w.heap.size := h.ext.below.size

/-- What turns nothing that lay. -/
theorem SR.later (h : SR M0 w0 M G ts w s) {M' : Mem} {w' : World} (hx : Ext M w M' w') : SR M0 w0 M' G ts w' s := by
  have hsub := hx.sub h.ext.ok
  obtain ⟨k1, k2⟩ := h.still (w' := w') (fun b o ho _ => (hx.below.block b (lt_of_heap ho)).trans ho)
  exact ⟨h.ext.trans hx.toExtS, h.frames.imp (fun d u hd => hd.sub hsub), fun id cs hc => (h.boxes id cs hc).ext h.ext.ok hx, fun id v hv => by
    obtain ⟨row, h1, h2, h3⟩ := h.rows id v hv
    exact ⟨row, h1, h2, h3.upd hsub (fun b ho hlt => ⟨hx.below.block b hlt, ho, fun ad ha => hx.same ad (by omega)⟩)⟩, k1, h.recs, h.inj, marks_mono k2 hsub hx.refsEq⟩

/-- A new box. -/
theorem num_even {s : St} {d : Nat} {Q : Prop} : s.num d % 2 = 1 → Q := fun h => by
  simp only [St.num] at h
  omega
theorem kOf_even {id : Nat} (h : id % 2 = 0) : kOf id = none := by simp [kOf, h]
theorem kOf_num {s : St} {d : Nat} : kOf (s.num d) = none := kOf_even (by simp only [St.num]; omega)
theorem SR.newBox (h : SR M0 w0 M G ts w s) (id : Nat) {us : List Value} {cs : List D} (t : TypeId) (ho : id % 2 = 1 → t = bldTy ∧ us.length = 2) (hrow : isRow cs = false) (hl : us.length = cs.length)
    (hc : ∀ (j : Nat) (d : D) (u : Value), cs[j]? = some d → us[j]? = some u → RD M G d u ∧ single u ∧ d.says id = false) :
    ∃ G', SR M0 w0 M G' ts (w.alloc (.cells us.toArray t)) { s.kill id with boxes := put (s.kill id).boxes id cs } ∧ RD M G' (.mptr id 0) (.pointer (some ⟨w.heap.size, 0, none⟩)) ∧ G'.lp = G.lp ∧ G'.mark = G.mark := by
  let G' : Gh := { G with blk := fun j => if j = id then some w.heap.size else G.blk j, owner := fun b => if b = w.heap.size then some (true, id) else G.owner b }
  have hG : ∀ j, j ≠ id → G'.blk j = G.blk j ∧ G'.rows j = G.rows j := fun j hj => ⟨if_neg hj, rfl⟩
  have he := alloc_ext' h.ext.ok (.cells us.toArray t)
  have hf : SR M0 w0 M G' ts (w.alloc (.cells us.toArray t)) (s.kill id) := h.fresh id (Sub.refl M) rfl (h.ext.trans he.toExtS) hG rfl rfl
    (fun b hb => ⟨heap_alloc_old w _ b hb, if_neg (by omega), fun _ _ => rfl⟩)
  refine ⟨G', hf.putBox (Box0.ok ⟨w.heap.size, us, t, if_pos rfl, h.old, if_pos rfl, heap_alloc_new w _, Nat.le_of_eq hl.symm, fun j d u hj hu => ?_, fun ad ha => ?_, ho⟩ hrow), ⟨w.heap.size, if_pos rfl, rfl⟩, rfl, rfl⟩
  · obtain ⟨h1, h2, h3⟩ := hc j d u hj hu
    exact ⟨h1.upd (Sub.refl M) h3 hG rfl, h2⟩
  · cases hM : M ad with
    | none => rfl
    | some v => have := h.ext.ok.old ad v hM; omega

theorem isRow_map_p (vs : List V) : isRow (vs.map D.p) = false := by
  match vs with
  | [] => rfl
  | [v] => rfl
  | v :: v2 :: r => rfl
theorem isRow_cells {d : D} {cs : List D} (h : d.cells = some cs) : isRow cs = false := by
  cases d with
  | p x =>
    cases x with
    | agg vs => simp only [D.cells, Option.some.injEq] at h; subst h; exact isRow_map_p vs
    | tup vs => simp [D.cells] at h
    | _ => simp only [D.cells, Option.some.injEq] at h; subst h; rfl
  | _ => first | (simp [D.cells] at h; done) | (simp only [D.cells, Option.some.injEq] at h; subst h; rfl)
/-- The cells of what a slot holds. -/
theorem D_cells {d : D} {u : Value} {cs : List D} (h : RD M G d u) (hc : d.cells = some cs) : u.cells.toList.length = cs.length ∧ ∀ (j : Nat) (e : D) (v : Value), cs[j]? = some e → u.cells.toList[j]? = some v → RD M G e v ∧ single v ∧ ∀ id, d.says id = false → e.says id = false := by
  have one : single u → cs = [d] → u.cells.toList.length = cs.length ∧ ∀ (j : Nat) (e : D) (v : Value), cs[j]? = some e → u.cells.toList[j]? = some v → RD M G e v ∧ single v ∧ ∀ id, d.says id = false → e.says id = false := by
    rintro hs rfl
    rw [hs.1]
    refine ⟨by simp, fun j e v he hv => ?_⟩
    cases j with
    | zero =>
      simp at he hv
      subst he; subst hv
      exact ⟨h, hs, fun _ h => h⟩
    | succ j => simp at he
  cases d with
  | junk => simp [D.cells] at hc
  | undef => simp [D.cells] at hc
  | own j ver ty xs =>
    simp only [D.cells, Option.some.injEq] at hc
    exact one (R_single h.1 (by simp) (by simp)) hc.symm
  | mptr j off =>
    simp only [D.cells, Option.some.injEq] at hc
    obtain ⟨b, _, rfl⟩ := h
    exact one ⟨rfl, rfl⟩ hc.symm
  | mclo f qs =>
    simp only [D.cells, Option.some.injEq] at hc
    obtain ⟨us, rfl, _⟩ := h
    exact one ⟨rfl, rfl⟩ hc.symm
  | yld lvl =>
    simp only [D.cells, Option.some.injEq] at hc
    obtain ⟨l, r, h', _, rfl⟩ := h
    exact one ⟨rfl, rfl⟩ hc.symm
  | row t xs => simp [D.cells] at hc
  | msl j sz lo len =>
    simp only [D.cells, Option.some.injEq] at hc
    obtain ⟨a, n, cap, rfl, _⟩ := h
    exact one ⟨rfl, rfl⟩ hc.symm
  | mel j sz i off =>
    simp only [D.cells, Option.some.injEq] at hc
    obtain ⟨_, b, _, rfl⟩ := h
    exact one ⟨rfl, rfl⟩ hc.symm
  | p x =>
    by_cases hx : ∃ cs', x = .agg cs'
    · obtain ⟨cs', rfl⟩ := hx
      simp only [D.cells, Option.some.injEq] at hc
      subst hc
      obtain ⟨h1, h2⟩ := R_cells (M := M) h (by simp)
      refine ⟨by simpa [V.cells] using h1.length, fun j e v he hv => ?_⟩
      rw [List.getElem?_map] at he
      obtain ⟨x, hx, rfl⟩ := Option.map_eq_some_iff.1 he
      obtain ⟨v', hv', hr⟩ := h1.get (x := x) hx
      rw [hv] at hv'
      cases hv'
      exact ⟨hr, h2 v (List.mem_of_getElem? hv), fun _ _ => rfl⟩
    · have h1 : ∀ cs', x ≠ .agg cs' := fun cs' e => hx ⟨cs', e⟩
      have h2 : ∀ vs, x ≠ .tup vs := by
        rintro vs rfl
        simp [D.cells] at hc
      have hcs : cs = [.p x] := by
        cases x <;> simp_all [D.cells]
      exact one (R_single (M := M) h h1 h2) hcs
end

section
variable {P : Program} {o : Oper}
theorem ok_alloc {zero : List V} (h : okOp P o.op (.alloc zero) = true) : ∃ t inf z, o.op = .alloc t ∧ P.info? t = some inf ∧ inf.zero = some z ∧ okVs z.cells.toList zero = true := by
  cases hp : o.op <;> rw [hp] at h <;> simp only [okOp, Bool.false_eq_true] at h
  split at h
  · rename_i i hi
    split at h
    · rename_i z hz
      exact ⟨_, i, z, rfl, hi, hz, h⟩
    · cases h
  · cases h
theorem ok_allb {zero : List V} (h : okOp P o.op (.allb zero) = true) : ∃ inf z, o.op = .alloc bldTy ∧ zero.length = 2 ∧ P.info? bldTy = some inf ∧ inf.zero = some z ∧ okVs z.cells.toList zero = true := by
  cases hp : o.op <;> rw [hp] at h <;> simp only [okOp, Bool.false_eq_true, Bool.and_eq_true, beq_iff_eq] at h
  obtain ⟨⟨rfl, hl⟩, h⟩ := h
  split at h
  · rename_i i hi
    split at h
    · rename_i z hz
      exact ⟨i, z, rfl, hl, hi, hz, h⟩
    · cases h
  · cases h
theorem ok_boxm {x : A} (h : okOp P o.op (.boxm x) = true) : ∃ t y, o.op = .box t y ∧ okA y x = true := by
  cases hp : o.op <;> rw [hp] at h <;> simp only [okOp, Bool.false_eq_true] at h
  exact ⟨_, _, rfl, h⟩
theorem ok_store {sz : Nat} {x y : A} (h : okOp P o.op (.store sz x y) = true) : ∃ t x' y', o.op = .store t x' y' ∧ okA x' x = true ∧ okA y' y = true ∧ tySize P t = some sz := by
  cases hp : o.op <;> rw [hp] at h <;> simp only [okOp, Bool.false_eq_true, Bool.and_eq_true, beq_iff_eq] at h
  exact ⟨_, _, _, rfl, h.1.1, h.1.2, h.2⟩
theorem tyElem_some {t e : TypeId} (h : tyElem P t = some e) : P.underlying t = some (.slice e) := by
  unfold tyElem at h
  split at h
  · rename_i e' he'; cases h; exact he'
  · cases h
theorem ok_apps {x y : A} (h : okOp P o.op (.apps x y) = true) : ∃ c t t' x' y' i, o.op = .call c ∧ c.callee = .builtin .append ∧ c.args.toList = [x', y'] ∧ c.argTypes.toList = [t, t'] ∧ okA x' x = true ∧ okA y' y = true ∧
    P.underlying t = some (.slice byTy) ∧ P.underlying t' = some .string ∧ P.info? byTy = some i ∧ i.size = 1 ∧ i.bytes = 1 ∧ i.zero = some (.int .u8 0) := by
  cases hp : o.op <;> rw [hp] at h <;> simp only [okOp, Bool.false_eq_true] at h
  split at h
  · rename_i x' y' t t' h1 h2 h3
    simp only [Bool.and_eq_true, beq_iff_eq] at h
    obtain ⟨⟨⟨⟨h4, h5⟩, h6⟩, h7⟩, h8⟩ := h
    split at h6
    · rename_i hs
      split at h8
      · rename_i i hi
        simp only [Bool.and_eq_true, beq_iff_eq] at h8
        obtain ⟨⟨h9, h10⟩, h11⟩ := h8
        split at h11
        · rename_i hz
          exact ⟨_, t, t', x', y', i, rfl, h1, h2, h3, h4, h5, tyElem_some h7, hs, hi, h9, h10, hz⟩
        · cases h11
      · cases h8
    · cases h6
  · cases h
theorem ok_app {sz bytes : Nat} {x y : A} (h : okOp P o.op (.app sz bytes x y) = true) : ∃ c t t' e e' x' y' i z, o.op = .call c ∧ c.callee = .builtin .append ∧ c.args.toList = [x', y'] ∧ c.argTypes.toList = [t, t'] ∧ okA x' x = true ∧ okA y' y = true ∧
    P.underlying t = some (.slice e) ∧ P.underlying t' = some (.slice e') ∧ P.info? e = some i ∧ i.size = sz ∧ i.bytes = bytes ∧ sz ≠ 0 ∧ bytes ≠ 0 ∧ i.zero = some z ∧ z.cells.size = sz := by
  cases hp : o.op <;> rw [hp] at h <;> simp only [okOp, Bool.false_eq_true] at h
  split at h
  · rename_i x' y' t t' h1 h2 h3
    simp only [Bool.and_eq_true] at h
    obtain ⟨⟨h4, h5⟩, h6⟩ := h
    split at h6
    · rename_i e e' he he'
      split at h6
      · rename_i i hi
        simp only [Bool.and_eq_true, beq_iff_eq, bne_iff_ne] at h6
        obtain ⟨⟨⟨⟨h7, h8⟩, h9⟩, h10⟩, h11⟩ := h6
        split at h11
        · rename_i z hz
          simp only [beq_iff_eq] at h11
          exact ⟨_, t, t', e, e', x', y', i, z, rfl, h1, h2, h3, h4, h5, tyElem_some he, tyElem_some he', hi, h7, h8, h9, h10, hz, h11⟩
        · cases h11
      · cases h6
    · cases h6
  · cases h
end

end Go.Evl
