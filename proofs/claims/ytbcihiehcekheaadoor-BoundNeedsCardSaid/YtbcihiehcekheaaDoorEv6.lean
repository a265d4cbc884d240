/-
  A value semantics for the program's code, part 6: the operations that turn nothing, one by one.
  Conditions: none; this text holds definitions and lemmas of their own.
-/
import Derived.Test.YtbcihiehcekheaaDoorEv5
namespace Go.Evl
open Go Go.RowKit
set_option linter.unusedVariables false
set_option linter.unusedSimpArgs false

theorem RL.mapR {M : Mem} {xs : List V} {us : List Value} (h : RL M xs us) {x : V} {u : Value} (hx : R M x u) : RL M (x :: xs) (u :: us) := by
  rw [RL]; exact ⟨u, us, rfl, hx, h⟩

/-- What may be known of a reading: the value, a memory that knows more, the world behind. -/
def Gives (P : Program) (M : Mem) (G : Gh) (w : World) (d : D) (s : Sem Next) : Prop :=
  ∃ v M' w', s.run P w = .ok (.value v) w' ∧ Ext M w M' w' ∧ RD M' G d v

theorem binI_run {P : Program} {op : BinOp} {k : IntKind} {x y : Int} {r : V} (h : binI std op k x y = some r) (t : TypeId) (p q : Operand) (w : World) (M : Mem) :
    ∃ u, (eqGuard op t p q (.int k x) (.int k y)).run P w = .ok () w ∧ (Go.binOp op t (.int k x) (.int k y)).run P w = .ok u w ∧ R M r u := by
  cases op
  case add => cases h; exact ⟨.int k (k.wrap (x + y)), by simp [eqGuard], by simp [Go.binOp, Op.intArith], by rw [R]; rfl⟩
  case sub => cases h; exact ⟨.int k (k.wrap (x - y)), by simp [eqGuard], by simp [Go.binOp, Op.intArith], by rw [R]; rfl⟩
  case mul => cases h; exact ⟨.int k (k.wrap (x * y)), by simp [eqGuard], by simp [Go.binOp, Op.intArith], by rw [R]; rfl⟩
  case quo =>
    obtain ⟨hz, h⟩ := cond_some h
    have hz' : y ≠ 0 := by simpa [std] using hz
    cases h
    exact ⟨.int k (k.wrap (x.tdiv y)), by simp [eqGuard], by simp [Go.binOp, Op.intDiv, hz'], by rw [R]; rfl⟩
  case rem =>
    obtain ⟨hz, h⟩ := cond_some h
    have hz' : y ≠ 0 := by simpa [std] using hz
    cases h
    exact ⟨.int k (x.tmod y), by simp [eqGuard], by simp [Go.binOp, Op.intDiv, hz'], by rw [R]; rfl⟩
  case eql => cases h; exact ⟨.bool (x == y), by simp [eqGuard], by simp [Go.binOp, Op.intCmp], by rw [R]; rfl⟩
  case neq => cases h; exact ⟨.bool (x != y), by simp [eqGuard], by simp [Go.binOp, Op.intCmp], by rw [R]; rfl⟩
  case lss => cases h; exact ⟨.bool (decide (x < y)), by simp [eqGuard], by simp [Go.binOp, Op.intCmp], by rw [R]; rfl⟩
  case leq => cases h; exact ⟨.bool (decide (x ≤ y)), by simp [eqGuard], by simp [Go.binOp, Op.intCmp], by rw [R]; rfl⟩
  case gtr => cases h; exact ⟨.bool (decide (x > y)), by simp [eqGuard], by simp [Go.binOp, Op.intCmp], by rw [R]; rfl⟩
  case geq => cases h; exact ⟨.bool (decide (x ≥ y)), by simp [eqGuard], by simp [Go.binOp, Op.intCmp], by rw [R]; rfl⟩
  all_goals (cases h)

theorem binS_run {P : Program} {op : BinOp} {x y : ByteArray} {r : V} (h : binV std op (.str x) (.str y) = some r) (t : TypeId) (p q : Operand) (w : World) (M : Mem) :
    ∃ u, (eqGuard op t p q (.string x) (.string y)).run P w = .ok () w ∧ (Go.binOp op t (.string x) (.string y)).run P w = .ok u w ∧ R M r u := by
  cases op
  case eql => cases h; exact ⟨.bool (x.toList == y.toList), by simp [eqGuard], by simp [Go.binOp, Op.stringOp], by rw [R]; rfl⟩
  case neq => cases h; exact ⟨.bool (!(x.toList == y.toList)), by simp [eqGuard], by simp [Go.binOp, Op.stringOp], by rw [R]; rfl⟩
  case add =>
    obtain ⟨hz, h⟩ := cond_some h
    cases h
    have hz' : ((x.size + y.size : Nat) : Int) ≤ 9223372036854775807 := by
      have := Nat.le_of_ble_eq_true hz
      omega
    have hz2 : ¬ ((x.size + y.size : Nat) : Int) > IntKind.i64.max := by
      have e : IntKind.i64.max = (9223372036854775807 : Int) := by rfl
      rw [e]; omega
    refine ⟨.string (x ++ y), by simp [eqGuard], ?_, by rw [R]; rfl⟩
    simp only [Go.binOp, Op.stringOp]
    rw [if_neg hz2]
    simp
  all_goals (cases h)

theorem RD_int {M : Mem} {G : Gh} {k : IntKind} {n : Int} {u : Value} (h : RD M G (.p (.int k n)) u) : u = .int k n := R_int (M := M) h
theorem RD_bool {M : Mem} {G : Gh} {b : Bool} {u : Value} (h : RD M G (.p (.bool b)) u) : u = .bool b := R_bool (M := M) h
theorem RD_str {M : Mem} {G : Gh} {b : ByteArray} {u : Value} (h : RD M G (.p (.str b)) u) : u = .string b := R_str (M := M) h
section
variable {P : Program} {o : Oper} {a : Act} {w : World} {M : Mem} {G : Gh} {B : Nat} {cf : FuncId → List V → Option V} {rd : A → D} {bx : Nat → Option (List D)} {d : D}

theorem g_same {s : Sem Next} {v : Value} (hm : Ok M w) (h : s.run P w = .ok (.value v) w) (hv : RD M G d v) : Gives P M G w d s := ⟨v, M, w, h, Ext.refl hm, hv⟩

theorem g_mov (hm : Ok M w) {x : A} {y : Operand} (hop : o.op = .move y ∨ o.op = .assign y) (hok : okA y x = true) (hr : Reads M G a rd x.tmps) : Gives P M G w (rd x) (execOp a.eval o) := by
  refine g_same hm (v := a.eval y) ?_ (opd hok hr)
  rcases hop with h | h <;> simp [execOp, h]

theorem g_pick (hm : Ok M w) {c x y : A} {c' x' y' : Operand} {t : Bool} (hop : o.op = .pick c' x' y') (h1 : okA c' c = true) (h2 : okA x' x = true) (h3 : okA y' y = true)
    (hr : Reads M G a rd (c.tmps ++ x.tmps ++ y.tmps)) (hc : rd c = .p (.bool t)) : Gives P M G w (bif t then rd x else rd y) (execOp a.eval o) := by
  have hcv := opd h1 (hr.mono (fun t ht => by simp [ht]))
  rw [hc] at hcv
  have hcv : a.eval c' = .bool t := RD_bool hcv
  have hx := opd h2 (hr.mono (fun t ht => by simp [ht]))
  have hy := opd h3 (hr.mono (fun t ht => by simp [ht]))
  cases t with
  | true => exact g_same hm (v := a.eval x') (by simp [execOp, hop, hcv, asBool]) hx
  | false => exact g_same hm (v := a.eval y') (by simp [execOp, hop, hcv, asBool]) hy

theorem g_bin (hm : Ok M w) {op : BinOp} {ty ty' : TypeId} {x y : A} {x' y' : Operand} {p q r : V} (hop : o.op = .binOp op ty x' y' ty') (h1 : okA x' x = true) (h2 : okA y' y = true)
    (hr : Reads M G a rd (x.tmps ++ y.tmps)) (hx : rd x = .p p) (hy : rd y = .p q) (he : binV std op p q = some r) : Gives P M G w (.p r) (execOp a.eval o) := by
  have hxv := opd h1 (hr.mono (fun t ht => by simp [ht]))
  have hyv := opd h2 (hr.mono (fun t ht => by simp [ht]))
  rw [hx] at hxv
  rw [hy] at hyv
  have hxv : R M p (a.eval x') := hxv
  have hyv : R M q (a.eval y') := hyv
  unfold binV at he
  split at he
  · rename_i k x0 k' y0 _ _
    have sh : ∀ op, isShift op = true → shiftI std op k x0 y0 = some r → ∃ u, (eqGuard op ty x' y' (.int k x0) (.int k' y0)).run P w = .ok () w ∧ (Go.binOp op ty (.int k x0) (.int k' y0)).run P w = .ok u w ∧ R M r u := by
      intro op hs he
      cases op <;> first | (cases hs; done) | skip
      · obtain ⟨hz, he⟩ := cond_some he
        have hz' : ¬ y0 < 0 := by have : 0 ≤ y0 := by simpa [std] using hz
                                  omega
        cases he
        exact ⟨.int k (k.wrap (x0 * 2 ^ (min y0.toNat k.bits))), by simp [eqGuard], by simp [Go.binOp, Op.shift, hz'], by rw [R]; rfl⟩
      · obtain ⟨hz, he⟩ := cond_some he
        have hz' : ¬ y0 < 0 := by have : 0 ≤ y0 := by simpa [std] using hz
                                  omega
        cases he
        exact ⟨.int k (x0.fdiv (2 ^ (min y0.toNat k.bits))), by simp [eqGuard], by simp [Go.binOp, Op.shift, hz'], by rw [R]; rfl⟩
    cases hop' : isShift op with
    | true =>
      rw [hop'] at he
      obtain ⟨u, hg, hu, hv⟩ := sh op hop' he
      refine g_same hm (v := u) ?_ hv
      simp [execOp, hop, R_int hxv, R_int hyv, hg, hu]
    | false =>
    rw [hop'] at he
    obtain ⟨hk, he'⟩ := cond_some he
    obtain rfl := kindEq_eq hk
    obtain ⟨u, hg, hu, hv⟩ := binI_run (P := P) he' ty x' y' w M
    refine g_same hm (v := u) ?_ hv
    simp [execOp, hop, R_int hxv, R_int hyv, hg, hu]
  · obtain ⟨u, hg, hu, hv⟩ := binS_run (P := P) (op := op) (by unfold binV; exact he) ty x' y' w M
    refine g_same hm (v := u) ?_ hv
    simp [execOp, hop, R_str hxv, R_str hyv, hg, hu]
  · cases he

theorem g_not (hm : Ok M w) {ty : TypeId} {x : A} {x' : Operand} {b : Bool} (hop : o.op = .unOp .not ty x') (h1 : okA x' x = true) (hr : Reads M G a rd x.tmps) (hx : rd x = .p (.bool b)) :
    Gives P M G w (.p (.bool !b)) (execOp a.eval o) := by
  have hxv := opd h1 hr
  rw [hx] at hxv
  refine g_same hm (v := .bool !b) ?_ (show RD M G (.p (.bool !b)) _ from R_bool' M _)
  simp [execOp, hop, RD_bool hxv, Op.unary]

theorem g_neg (hm : Ok M w) {ty : TypeId} {x : A} {x' : Operand} {k : IntKind} {n : Int} (hop : o.op = .unOp .neg ty x') (h1 : okA x' x = true) (hr : Reads M G a rd x.tmps) (hx : rd x = .p (.int k n)) :
    Gives P M G w (.p (.int k (std.sub k 0 n))) (execOp a.eval o) := by
  have hxv := opd h1 hr
  rw [hx] at hxv
  refine g_same hm (v := .int k (k.wrap (0 - n))) ?_ (show RD M G (.p _) _ from R_int' M _ _)
  simp [execOp, hop, RD_int hxv, Op.unary, Op.intArith]

theorem g_load (hm : Ok M w) {t : TypeId} {sz : Nat} {ag : Bool} {x : A} {x' : Operand} {cs : List V} {off : Nat} {v : V} (hop : o.op = .load t x') (h1 : okA x' x = true) (h2 : tySize P t = some sz) (h3 : tyAgg P t = some ag)
    (hr : Reads M G a rd x.tmps) (hx : rd x = .p (.ptr cs off)) (he : partV cs off sz ag = some v) : Gives P M G w (.p v) (execOp a.eval o) := by
  have hxv := opd h1 hr
  rw [hx] at hxv
  have hxv : R M (.ptr cs off) (a.eval x') := hxv
  rw [R] at hxv
  obtain ⟨ad, us, hv, hrl, hs⟩ := hxv
  obtain ⟨u, hu, hr'⟩ := load_run (P := P) (w := w) h2 h3 hrl (fun j u hj => ⟨hm.cell _ _ (hs j u hj).1, (hs j u hj).2⟩) he
  refine g_same hm (v := u) ?_ hr'
  simp [execOp, hop, hv, Instr.loadAt, Instr.sureAddr, hu]

theorem g_loadD (hm : Ok M w) (hbx : ∀ id cs, bx id = some cs → BoxOk M G B w id cs) {t : TypeId} {sz : Nat} {ag : Bool} {x : A} {x' : Operand} {id off : Nat} {cs : List D} (hop : o.op = .load t x') (h1 : okA x' x = true) (h2 : tySize P t = some sz) (h3 : tyAgg P t = some ag)
    (hr : Reads M G a rd x.tmps) (hx : rd x = .mptr id off) (hb : bx id = some cs) (hrow : isRow cs = false) (he : partD cs off sz ag = some d) : Gives P M G w d (execOp a.eval o) := by
  have hxv := opd h1 hr
  rw [hx] at hxv
  obtain ⟨b, hb1, hv⟩ := hxv
  obtain ⟨b', us, e, hb2, _, _, hh, hl, hs, _⟩ := (hbx id cs hb).cells hrow
  rw [hb1] at hb2
  cases hb2
  obtain ⟨u, hu, hr'⟩ := loadD_run (P := P) (w := w) h2 h3 hh hl hs he
  refine g_same hm (v := u) ?_ hr'
  simp [execOp, hop, hv, Instr.loadAt, Instr.sureAddr, hu]

theorem idx_get {α : Type} {xs : List α} {n : Int} {e : α} (h : std.idx xs n = some e) : 0 ≤ n ∧ n.toNat < xs.length ∧ xs[n.toNat]? = some e := by
  simp only [std] at h
  split at h
  · rename_i hn
    exact ⟨hn, (List.getElem?_eq_some_iff.1 h).1, h⟩
  · cases h

/-- A load out of an element of a row. -/
theorem g_loadE (hm : Ok M w) (hbx : ∀ id cs, bx id = some cs → BoxOk M G B w id cs) {t : TypeId} {sz sz' : Nat} {ag : Bool} {x : A} {x' : Operand} {id off : Nat} {i : Int} {ty : Ty} {xs : List ty.D} {e : ty.D} {v : V} (hop : o.op = .load t x') (h1 : okA x' x = true) (h2 : tySize P t = some sz) (h3 : tyAgg P t = some ag)
    (hr : Reads M G a rd x.tmps) (hx : rd x = .mel id sz' i off) (hb : bx id = some [.row ty xs]) (hz : ty.csz = sz') (h0 : 0 < sz') (hle : off + sz ≤ sz') (hi : std.idx xs i = some e) (he : partV (ty.enc e).cells off sz ag = some v) : Gives P M G w (.p v) (execOp a.eval o) := by
  have hxv := opd h1 hr
  rw [hx] at hxv
  obtain ⟨hn, b, hb1, hv⟩ := hxv
  obtain ⟨_, _, hget⟩ := idx_get hi
  subst hz
  have hp := part_row hget hle he
  rcases hbx id _ hb with h0 | h0
  · exfalso
    have hz : rowCs ty xs = [] := h0.2
    have hlt := (List.getElem?_eq_some_iff.1 hget).1
    have h5 := congrArg List.length hz
    rw [rowCs_len] at h5
    rcases Nat.mul_eq_zero.1 h5 with h6 | h6 <;> omega
  · obtain ⟨b', us, e', hb2, _, _, hh, hl, hs, _⟩ := h0
    rw [hb1] at hb2
    cases hb2
    obtain ⟨u, hu, hr'⟩ := loadD_run (P := P) (w := w) h2 h3 hh hl hs hp
    refine g_same hm (v := u) ?_ hr'
    simp [execOp, hop, hv, Instr.loadAt, Instr.sureAddr, hu]

theorem g_fa (hm : Ok M w) {t : TypeId} {f off : Nat} {fd : Field} {s : Nat} {x : A} {x' : Operand} (hop : o.op = .fieldAddr t x' f) (h1 : okA x' x = true) (h2 : tyField P t f = some fd) (h3 : fd.offset = off) (h4 : tySize P fd.type = some s) (h5 : s ≠ 0)
    (hr : Reads M G a rd x.tmps) (he : (match rd x with | .p (.ptr cs o) => some (.p (.ptr cs (o + off))) | .mptr id o => some (.mptr id (o + off)) | .mel id sz i o => some (.mel id sz i (o + off)) | _ => none) = some d) : Gives P M G w d (execOp a.eval o) := by
  have hxv := opd h1 hr
  have hf : ∀ ad, a.eval x' = .pointer (some ad) → (execOp a.eval o).run P w = .ok (.value (.pointer (some (ad.add off)))) w := by
    intro ad hv
    unfold tyField at h2
    split at h2
    · rename_i fs hu
      simp [execOp, hop, hv, Instr.fieldAt, run_underlying hu, h2, Instr.sureAddr, fieldPlace, size_run h4, h5, h3]
    · cases h2
  split at he
  · rename_i cs o' hx
    cases he
    rw [hx] at hxv
    have hxv : R M (.ptr cs o') (a.eval x') := hxv
    rw [R] at hxv
    obtain ⟨ad, us, hv, hrl, hs⟩ := hxv
    refine g_same hm (hf _ hv) ?_
    show R M (.ptr cs (o' + off)) _
    rw [R]
    exact ⟨ad, us, by rw [add_add], hrl, hs⟩
  · rename_i id o' hx
    cases he
    rw [hx] at hxv
    obtain ⟨b, hb, hv⟩ := hxv
    refine g_same hm (hf _ hv) ⟨b, hb, by rw [add_plain']⟩
  · rename_i id sz i o' hx
    cases he
    rw [hx] at hxv
    obtain ⟨hi, b, hb, hv⟩ := hxv
    refine g_same hm (hf _ hv) ⟨hi, b, hb, by rw [add_plain', Nat.add_assoc]⟩
  · cases he

theorem g_fld (hm : Ok M w) {t : TypeId} {f off sz : Nat} {ag : Bool} {fd : Field} {x : A} {x' : Operand} {cs : List V} {v : V} (hop : o.op = .field t x' f) (h1 : okA x' x = true) (h2 : tyField P t f = some fd) (h3 : fd.offset = off) (h4 : tySize P fd.type = some sz) (h5 : tyAgg P fd.type = some ag)
    (hr : Reads M G a rd x.tmps) (hx : rd x = .p (.agg cs)) (he : partV cs off sz ag = some v) : Gives P M G w (.p v) (execOp a.eval o) := by
  have hxv := opd h1 hr
  rw [hx] at hxv
  have hxv : R M (.agg cs) (a.eval x') := hxv
  rw [R] at hxv
  obtain ⟨us, hv, hrl, hs⟩ := hxv
  unfold tyField at h2
  split at h2
  · rename_i fs hu
    subst h3
    obtain ⟨u, hp, hru⟩ := part_run (P := P) h4 h5 hrl hs he w
    refine g_same hm (v := u) ?_ hru
    simp [execOp, hop, hv, Instr.field, run_underlying hu, h2, asAgg, hp]
  · cases h2

/-- The place of an element, in a slice of a row. -/
theorem g_iam (hm : Ok M w) {t e : TypeId} {sz id : Nat} {lo len : Int} {x i : A} {x' i' : Operand} {k : IntKind} {m : Int} (hop : o.op = .indexAddr t x' i') (h1 : okA x' x = true) (h2 : okA i' i = true) (h3 : tyElem P t = some e) (h4 : tySize P e = some sz) (h5 : sz ≠ 0)
    (hr : Reads M G a rd (x.tmps ++ i.tmps)) (hx : rd x = .msl id sz lo len) (hi : rd i = .p (.int k m)) (h0 : 0 ≤ m) (hlt : m < len) : Gives P M G w (.mel id sz (std.ia lo m) 0) (execOp a.eval o) := by
  have hxv := opd h1 (hr.mono (fun t ht => by simp [ht]))
  have hiv := opd h2 (hr.mono (fun t ht => by simp [ht]))
  rw [hi] at hiv
  rw [hx] at hxv
  have hiv : a.eval i' = .int k m := RD_int hiv
  obtain ⟨ao, n, cap, hv, rfl, hcap, hlo, hb⟩ := hxv
  obtain ⟨b, hb1, rfl⟩ := hb (by omega)
  unfold tyElem at h3
  split at h3
  · rename_i e' hu'
    cases h3
    have hel : P.elem t = e := by simp [Program.elem, hu']
    have hu2 : P.underlying t = some (.slice (P.elem t)) := by rw [hel]; exact hu'
    refine g_same hm (v := .pointer (some (Addr.add ⟨b, lo.toNat * sz, none⟩ (m.toNat * sz)))) ?_ ⟨by simp only [std]; omega, b, hb1, ?_⟩
    · simp [execOp, hop, hv, hiv, run_indexAt_slice w t ⟨b, lo.toNat * sz, none⟩ n cap k m hu2, h0, hlt, hel, size_run h4]
    · rw [add_plain', Nat.add_zero]
      have : (std.ia lo m).toNat = lo.toNat + m.toNat := by simp only [std]; omega
      rw [this, Nat.add_mul]
  · cases h3

theorem g_ia (hm : Ok M w) {t e : TypeId} {sz : Nat} {x i : A} {x' i' : Operand} {fl : Bool} {ty : Ty} {xs : List ty.D} {k : IntKind} {m : Int} {v : ty.D} (hop : o.op = .indexAddr t x' i') (h1 : okA x' x = true) (h2 : okA i' i = true) (h3 : tyElem P t = some e) (h4 : tySize P e = some sz) (h5 : sz ≠ 0)
    (hr : Reads M G a rd (x.tmps ++ i.tmps)) (hx : (rd x).toV = some (.sl fl ty xs)) (hi : rd i = .p (.int k m)) (he : std.idx xs m = some v) (hz : ty.csz = sz) : Gives P M G w (.p (.ptr (ty.enc v).cells 0)) (execOp a.eval o) := by
  have hz := (Ty.enc_cells ty v).trans hz
  have hxv := opdV h1 (hr.mono (fun t ht => by simp [ht])) hx
  have hiv := opd h2 (hr.mono (fun t ht => by simp [ht]))
  rw [hi] at hiv
  have hiv : a.eval i' = .int k m := RD_int hiv
  obtain ⟨ao, cap, hv, hcap, _, hor⟩ := R_sl.1 hxv
  obtain ⟨hn, hlt, hget⟩ := idx_get he
  rw [List.length_map] at hv hcap
  have hget : (xs.map ty.enc)[m.toNat]? = some (ty.enc v) := by rw [List.getElem?_map, hget]; rfl
  generalize ty.enc v = v at hget hz ⊢
  rcases hor with hor | ⟨ad, sz', us, rfl, hpos, hrl, hlaid⟩
  · rw [List.map_eq_nil_iff] at hor; subst hor; simp at hlt
  · obtain ⟨u, hu, hru⟩ := hrl.get hget
    obtain ⟨hus, hsg, hcell⟩ := hlaid _ _ hu
    have hnt : ∀ vs, v ≠ .tup vs := by
      rintro vs rfl
      rw [R] at hru
      obtain ⟨us', rfl, _⟩ := hru
      have := (hsg (.tuple us'.toArray) (by simp [Value.cells])).2
      simp [Value.oneCell'] at this
    unfold tyElem at h3
    split at h3
    · rename_i e' hu'
      cases h3
      have hel : P.elem t = e := by simp [Program.elem, hu']
      have hu2 : P.underlying t = some (.slice (P.elem t)) := by rw [hel]; exact hu'
      obtain ⟨hcl, hcs⟩ := R_cells hru hnt
      have hsz : sz' = sz := by
        have := hcl.length
        rw [hz] at this
        rw [← this, ← hus]; simp
      subst hsz
      refine g_same hm (v := .pointer (some (ad.add (m.toNat * sz')))) ?_ ?_
      · have : m < xs.length := by omega
        simp [execOp, hop, hv, hiv, run_indexAt_slice w t ad xs.length cap k m hu2, hn, this, hel, size_run h4]
      · show R M (.ptr v.cells 0) _
        rw [R]
        refine ⟨ad.add (m.toNat * sz'), u.cells.toList, by rw [add_add]; rfl, hcl, fun j c hj => ?_⟩
        have hj' : j < u.cells.size := by
          have := (List.getElem?_eq_some_iff.1 hj).1
          simpa using this
        refine ⟨?_, hcs c (List.mem_of_getElem? hj)⟩
        rw [add_add, hcell j (by omega)]
        simpa using hj
    · cases h3
end

end Go.Evl
