/-
  A value semantics for the program's code, part 14: one operation of a region that draws nothing.
  Conditions: none; this text holds definitions and lemmas of their own.
-/
import Derived.Test.YtbcihiehcekheaaDoorEvM
import Derived.RangeFuncRecord
import Derived.RangeFuncIn
namespace Go.Evl
open Go Go.RowKit
set_option linter.unusedVariables false
set_option linter.unusedSimpArgs false

/-- Two lists, place by place. -/
def All2 (q : D → Value → Prop) (cs : List D) (us : List Value) : Prop := us.length = cs.length ∧ ∀ (j : Nat) (d : D) (u : Value), cs[j]? = some d → us[j]? = some u → q d u
theorem All2.append {q : D → Value → Prop} {cs ds : List D} {us vs : List Value} (h : All2 q cs us) (k : All2 q ds vs) : All2 q (cs ++ ds) (us ++ vs) := by
  refine ⟨by simp [h.1, k.1], fun j d u hd hu => ?_⟩
  rcases Nat.lt_or_ge j cs.length with hj | hj
  · rw [List.getElem?_append_left hj] at hd
    rw [List.getElem?_append_left (by rw [h.1]; exact hj)] at hu
    exact h.2 j d u hd hu
  · rw [List.getElem?_append_right hj] at hd
    rw [List.getElem?_append_right (by rw [h.1]; exact hj), h.1] at hu
    exact k.2 _ d u hd hu
theorem All2.take {q : D → Value → Prop} {cs : List D} {us : List Value} (h : All2 q cs us) (n : Nat) : All2 q (cs.take n) (us.take n) := by
  refine ⟨by simp [h.1], fun j d u hd hu => ?_⟩
  rw [List.getElem?_take] at hd hu
  split at hd
  · rename_i hj; rw [if_pos hj] at hu; exact h.2 j d u hd hu
  · cases hd
theorem All2.drop {q : D → Value → Prop} {cs : List D} {us : List Value} (h : All2 q cs us) (n : Nat) : All2 q (cs.drop n) (us.drop n) := by
  refine ⟨by simp [h.1], fun j d u hd hu => ?_⟩
  rw [List.getElem?_drop] at hd hu
  exact h.2 _ d u hd hu


/-- What is known of the ghosts behind a step of a frame at a height: the loops stand; the marks of this frame and of those below stand. -/
def Gstep (h : Nat) (G G' : Gh) : Prop := G'.lp = G.lp ∧ ∀ b j, G.mark b = some j → j ≤ h → G'.mark b = some j
theorem Gstep.refl (h : Nat) (G : Gh) : Gstep h G G := ⟨rfl, fun _ _ h _ => h⟩
theorem Gstep.trans {h : Nat} {G G' G'' : Gh} (a : Gstep h G G') (b : Gstep h G' G'') : Gstep h G G'' := ⟨b.1.trans a.1, fun x j hx hj => b.2 x j (a.2 x j hx hj) hj⟩
theorem Gstep.same {h : Nat} {G G' : Gh} (a : G'.lp = G.lp) (b : G'.mark = G.mark) : Gstep h G G' := ⟨a, fun x j hx _ => by rw [b]; exact hx⟩
theorem Gstep.le {h h' : Nat} {G G' : Gh} (a : Gstep h G G') (hl : h' ≤ h) : Gstep h' G G' := ⟨a.1, fun x j hx hj => a.2 x j hx (Nat.le_trans hj hl)⟩

def DL (M : Mem) (G : Gh) (ds : List D) (us : List Value) : Prop := us.length = ds.length ∧ ∀ (i : Nat) (d : D) (u : Value), ds[i]? = some d → us[i]? = some u → RD M G d u
theorem DL.append {M : Mem} {G : Gh} {ds es : List D} {us vs : List Value} (h : DL M G ds us) (k : DL M G es vs) : DL M G (ds ++ es) (us ++ vs) := by
  refine ⟨by simp [h.1, k.1], fun j d u hd hu => ?_⟩
  rcases Nat.lt_or_ge j ds.length with hj | hj
  · rw [List.getElem?_append_left hj] at hd
    rw [List.getElem?_append_left (by rw [h.1]; exact hj)] at hu
    exact h.2 j d u hd hu
  · rw [List.getElem?_append_right hj] at hd
    rw [List.getElem?_append_right (by rw [h.1]; exact hj), h.1] at hu
    exact k.2 _ d u hd hu
theorem DL.ofRL {M : Mem} {G : Gh} {vs : List V} {us : List Value} (h : RL M vs us) : DL M G (vs.map D.p) us := by
  refine ⟨by simp [h.length], fun i d u hd hu => ?_⟩
  rw [List.getElem?_map] at hd
  obtain ⟨v, hv, rfl⟩ := Option.map_eq_some_iff.1 hd
  obtain ⟨u', hu', hr⟩ := h.get hv
  rw [hu] at hu'; cases hu'
  exact hr
theorem DL.ofRC {M : Mem} {G : Gh} {cs : List Cp} {us : List Value} (h : RC M G cs us) : DL M G (cs.map Cp.toD) us := by
  refine ⟨by simp [h.1], fun i d u hd hu => ?_⟩
  rw [List.getElem?_map] at hd
  obtain ⟨c, hc, rfl⟩ := Option.map_eq_some_iff.1 hd
  have := h.2 i c u hc hu
  cases c <;> exact this
theorem DL.tail {M : Mem} {G : Gh} {d : D} {ds : List D} {u : Value} {us : List Value} (h : DL M G (d :: ds) (u :: us)) : DL M G ds us :=
  ⟨by simpa using h.1, fun i e v he hv => h.2 (i + 1) e v (by simpa using he) (by simpa using hv)⟩
theorem opdsD {M : Mem} {G : Gh} {a : Act} {rd : A → D} : ∀ {ys : List Operand} {xs : List A}, okAs ys xs = true → Reads M G a rd (tmpsL xs) → DL M G (xs.map rd) (ys.map a.eval)
  | [], [], _, _ => ⟨rfl, fun i d u hd _ => by simp at hd⟩
  | y :: ys, x :: xs, h, hr => by
    simp only [okAs, Bool.and_eq_true] at h
    have h1 := opd h.1 (hr.mono (fun t ht => by simp [tmpsL, ht]))
    have h2 := opdsD h.2 (hr.mono (fun t ht => by simp [tmpsL, ht]))
    refine ⟨by simp [h2.1], fun i d u hd hu => ?_⟩
    cases i with
    | zero => simp at hd hu; subst hd; subst hu; exact h1
    | succ i => exact h2.2 i d u (by simpa using hd) (by simpa using hu)
  | [], _ :: _, h, _ => by simp [okAs] at h
  | _ :: _, [], h, _ => by simp [okAs] at h
theorem toCps_RC {M : Mem} {G : Gh} : ∀ {ds : List D} {cs : List Cp} {us : List Value}, toCps ds = some cs → DL M G ds us → RC M G cs us
  | [], cs, us, h, hd => by
    simp only [toCps, Option.some.injEq] at h
    subst h
    exact ⟨by simpa using hd.1, fun i c u hc _ => by simp at hc⟩
  | d :: ds, cs, [], h, hd => by simp [DL] at hd
  | d :: ds, cs, u :: us, h, hd => by
    simp only [toCps] at h
    split at h
    · cases h
    · rename_i c hc
      split at h
      · rename_i cs' hcs
        cases h
        have h2 := toCps_RC hcs hd.tail
        have h1 := hd.2 0 d u rfl rfl
        refine ⟨by simp [h2.1], fun i c' u' hi hu => ?_⟩
        cases i with
        | zero =>
          simp at hi hu
          subst hi; subst hu
          cases d with
          | junk => simp [D.toCp] at hc
          | undef => simp [D.toCp] at hc
          | p v => simp [D.toCp] at hc; subst hc; exact h1
          | own id ver ty xs => simp [D.toCp] at hc; subst hc; exact h1.1
          | mptr id off => simp [D.toCp] at hc; subst hc; exact h1
          | mclo f q => simp [D.toCp] at hc
          | yld l => simp [D.toCp] at hc
          | row t xs => simp [D.toCp] at hc
          | msl id sz lo len => simp [D.toCp] at hc
          | mel id sz i off => simp [D.toCp] at hc
        | succ i => exact h2.2 i c' u' (by simpa using hi) (by simpa using hu)
      · cases h

section
variable {M0 : Mem} {w0 : World} {M : Mem} {G : Gh} {ts : List (Array Value)} {w : World} {s : St}

/-- The cells that are spoken of come first. -/
def Pre2 (q : D → Value → Prop) (cs : List D) (us : List Value) : Prop := cs.length ≤ us.length ∧ ∀ (j : Nat) (d : D) (u : Value), cs[j]? = some d → us[j]? = some u → q d u
theorem Pre2.setRange {q : D → Value → Prop} {cs ds : List D} {us vs : List Value} {off : Nat} (h : Pre2 q cs us) (k : All2 q ds vs) (hle : off + ds.length ≤ cs.length) : Pre2 q (setRange cs off ds) (us.take off ++ vs ++ us.drop (off + ds.length)) := by
  obtain ⟨h1, h2⟩ := h
  obtain ⟨k1, k2⟩ := k
  have e1 : (cs.take off).length = off := by rw [List.length_take]; omega
  have e2 : (us.take off).length = off := by rw [List.length_take]; omega
  unfold Go.Evl.setRange
  refine ⟨by simp; omega, fun j d u hd hu => ?_⟩
  rcases Nat.lt_or_ge j off with hj | hj
  · rw [List.append_assoc, List.getElem?_append_left (by omega), List.getElem?_take, if_pos hj] at hd hu
    exact h2 j d u hd hu
  · rw [List.append_assoc, List.getElem?_append_right (by omega)] at hd hu
    rw [e1] at hd
    rw [e2] at hu
    rcases Nat.lt_or_ge (j - off) ds.length with hj2 | hj2
    · rw [List.getElem?_append_left (by omega)] at hd hu
      exact k2 _ d u hd hu
    · rw [List.getElem?_append_right (by omega), List.getElem?_drop] at hd hu
      rw [k1] at hu
      exact h2 _ d u hd hu
theorem sby_len (bs : ByteArray) : (std.sby bs).length = bs.size := by
  show (bs.data.toList.map _).length = _
  rw [List.length_map]; rfl
theorem bys_spec {xs : List Int} (h : std.bys xs = true) : xs ≠ [] ∧ ∀ n ∈ xs, (0 : Int) ≤ n ∧ n ≤ 255 := by
  have h : (!xs.isEmpty && xs.all fun n => decide (0 ≤ n) && decide (n ≤ 255)) = true := h
  simp only [Bool.and_eq_true, Bool.not_eq_true', List.isEmpty_eq_false_iff, List.all_eq_true, decide_eq_true_eq] at h
  exact h
theorem RL_bytes {M : Mem} : ∀ {xs : List Int} {us : List Value}, RL M (xs.map (Ty.int .u8).enc) us → us = xs.map (Value.int .u8)
  | [], us, h => by
    have h : RL M [] us := h
    rw [RL] at h; exact h
  | x :: xs, us, h => by
    have h : RL M (V.int .u8 x :: xs.map (Ty.int .u8).enc) us := h
    rw [RL] at h
    obtain ⟨u, us', rfl, h1, h2⟩ := h
    have h1 : u = .int .u8 x := h1
    rw [h1, RL_bytes h2]; rfl
theorem flat_bytes (xs : List Int) : flat (xs.map (Value.int .u8)) = xs.map (Value.int .u8) := by
  induction xs with
  | nil => rfl
  | cons x xs ih =>
    unfold flat at ih ⊢
    rw [List.map_cons, List.flatMap_cons, ih]; rfl
theorem bytes_of {M : Mem} {w : World} {g sz : Nat} {us : List Value} {xs : List Int} (hm : Known M w) (hb : std.bys xs = true) (hxs : RL M (xs.map (Ty.int .u8).enc) us) (hl : Laid M ⟨g, 0, none⟩ sz us) (h0 : 0 < sz) :
    ∃ l : List UInt8, std.yb xs = ⟨l.toArray⟩ ∧ l ≠ [] ∧ l.length = us.length ∧ ∀ j x, l[j]? = some x → w.cell? ⟨g, j, none⟩ = some (.int .u8 x.toNat) := by
  obtain ⟨hne, hran⟩ := bys_spec hb
  have hus := RL_bytes hxs
  refine ⟨xs.map fun n => UInt8.ofNat n.toNat, rfl, by simpa using hne, by rw [hus, List.length_map, List.length_map], fun j x hj => ?_⟩
  rw [List.getElem?_map] at hj
  obtain ⟨n, hn, rfl⟩ := Option.map_eq_some_iff.1 hj
  have hnr := hran n (List.mem_of_getElem? hn)
  have hfl : (flat us)[j]? = some (.int .u8 n) := by
    rw [hus, flat_bytes, List.getElem?_map, hn]; rfl
  have hM := hl.known h0 hfl
  rw [add_plain] at hM
  have hc := hm.cell _ _ hM
  have : ((UInt8.ofNat n.toNat).toNat : Int) = n := by
    rw [UInt8.toNat_ofNat']
    omega
  rw [this]
  simpa using hc
/-- A store into a box. -/
theorem SR.setBox (h : SR M0 w0 M G ts w s) {id b : Nat} {us us' : List Value} {cs' : List D} {t : TypeId} (hblk : G.blk id = some b) (hB : w0.heap.size ≤ b) (hown : G.owner b = some (true, id))
    (hheap : w.heap[b]? = some (.cells us.toArray t (0, 0))) (hno : (∀ ad : Addr, ad.block = b → M ad = none) ∧ (id % 2 = 1 → t = bldTy ∧ us.length = 2)) (hul : us'.length = us.length) (hc : Pre2 (fun d u => RD M G d u ∧ single u) (expand cs') us') :
    SR M0 w0 M G ts (w.setRow b us'.toArray) { s with boxes := put s.boxes id cs' } := by
  have hne : ∀ ad v, M ad = some v → ad.block ≠ b := fun ad v hv e => by rw [hno.1 ad e] at hv; cases hv
  obtain ⟨k1, k2⟩ := h.still (w' := w.setRow b us'.toArray) (fun k o hk hn => (setRow_other w b k _ (fun e => hn _ _ _ (by rw [e, hheap] at hk; cases hk; rfl))).trans hk)
  refine ⟨ExtS.make h.ext.tab h.ext.same (fun ad v hv => ?_) (fun ad v hv => by rw [setRow_size]; exact h.ext.ok.old ad v hv) (h.ext.below.trans ⟨rfl, rfl, rfl, by rw [setRow_size]; exact Nat.le_refl _, fun k hk => setRow_other w b k _ (by omega)⟩) h.ext.refs (fun a k b c e => by rw [setRow_size]; exact h.ext.ok.oldR a k b c e), h.frames, fun j cs hj => ?_, fun j v hj => ?_, k1, h.recs, h.inj, k2⟩
  · rw [cell_setRow_other w b _ ad (hne ad v hv)]
    exact h.ext.ok.cell ad v hv
  · by_cases e : j = id
    · subst e
      simp only [get_put_same, Option.some.injEq] at hj
      subst hj
      exact .inr ⟨b, us', t, hblk, hB, hown, setRow_heap w b _ _ t (0, 0) hheap, hc.1, hc.2, hno.1, by rw [hul]; exact hno.2⟩
    · rw [get_put_ne _ _ e] at hj
      refine (h.boxes j cs hj).upd' (Sub.refl M) rfl (fun b' ho hlt _ => ⟨setRow_other w b b' _ ?_, rfl, fun _ _ => rfl⟩) (fun d u hu => hu)
      rintro rfl
      rw [hown] at ho
      cases ho
      exact e rfl
  · obtain ⟨row, h1, h2, h3⟩ := h.rows j v hj
    refine ⟨row, h1, h2, h3.upd (Sub.refl M) (fun b' ho hlt => ⟨setRow_other w b b' _ ?_, ho, fun _ _ => rfl⟩)⟩
    rintro rfl
    rw [hown] at ho
    cases ho

theorem RowAt.R {k : Option TypeId} {B : Nat} {own : Nat → Prop} {sv : Value} {us : List Value} {sz : Nat} {ty : Ty} {xs : List ty.D} (h : RowAt k M B w own sv us sz) (hr : RL M (xs.map ty.enc) us) : R M (.sl false ty xs) sv := by
  obtain ⟨ao, cap, rfl, h2⟩ := h
  have hl := hr.length
  refine R_sl.2 ?_
  rcases h2 with ⟨rfl, h3⟩ | ⟨h2, b, cur, t, rfl, h4, h5, h6, h7, h8, h9, h10, h11⟩
  · refine ⟨ao, us.length, by rw [hl], by omega, by simp, ?_⟩
    rcases h3 with rfl | ⟨ad, rfl, h3, h4, _⟩
    · left; exact List.eq_nil_of_length_eq_zero (by rw [← hl]; rfl)
    · exact .inr ⟨ad, sz, us, rfl, h3, hr, h4⟩
  · exact ⟨_, cap, by rw [hl], by omega, by simp, .inr ⟨_, sz, us, rfl, h9, hr, h10⟩⟩

theorem fits_enc {t : Ty} {b : Nat} {xs ys : List t.D} (h : std.fits b xs ys = true) : std.fits b (xs.map t.enc) (ys.map t.enc) = true := by
  simpa [std] using h
theorem rd_bump {M' : Mem} {G' : Gh} {id : Nat} {row row' : Row} {d : D} {u : Value} (h : RD M G d u) (hs : Sub M M') (hrow : G.rows id = some row) (hblk : ∀ j, G'.blk j = G.blk j) (hr' : G'.rows id = some row') (hro : ∀ j, j ≠ id → G'.rows j = G.rows j) (hlp : G'.lp = G.lp) (hv : row'.ver = row.ver + 1) : RD M' G' d u := by
  cases d with
  | junk => trivial
  | undef => exact h
  | p v => exact R.sub hs _ _ h
  | mptr j off =>
    obtain ⟨b, hb, hu⟩ := h
    exact ⟨b, by rw [hblk]; exact hb, hu⟩
  | yld lvl => obtain ⟨l, r, h', k, e⟩ := h; exact ⟨l, r, h', by rw [hlp]; exact k, e⟩
  | row t xs => trivial
  | msl j sz lo len =>
    obtain ⟨a, n, cap, e1, e2, e3, e4, hb⟩ := h
    exact ⟨a, n, cap, e1, e2, e3, e4, fun hp => by rw [hblk]; exact hb hp⟩
  | mel j sz i off => obtain ⟨hi, b, hb, hu⟩ := h; exact ⟨hi, b, by rw [hblk]; exact hb, hu⟩
  | mclo f cs =>
    obtain ⟨us, e, hl, hc⟩ := h
    refine ⟨us, e, hl, fun i c u hi hu => ?_⟩
    have := (hc i c u hi hu)
    cases c with
    | p v => exact R.sub hs _ _ this
    | mptr j off => obtain ⟨b, hb, hu⟩ := this; exact ⟨b, by rw [hblk]; exact hb, hu⟩
  | own j ver ty xs =>
    refine ⟨R.sub hs _ _ h.1, fun r hr => ?_⟩
    by_cases e : j = id
    · subst e
      rw [hr'] at hr
      cases hr
      have := (h.2 row hrow).1
      exact ⟨by omega, fun he => by omega⟩
    · rw [hro j e] at hr
      exact ⟨(h.2 r hr).1, fun hv => ⟨((h.2 r hr).2 hv).1, RL.sub hs _ _ ((h.2 r hr).2 hv).2⟩⟩
end

/-! ### Rows that turn -/
section
variable {M0 : Mem} {w0 : World} {M : Mem} {G : Gh} {ts : List (Array Value)} {w : World} {s : St}
/-- A box turns no more: its cells are known from here on. -/
theorem SR.know {id b : Nat} {us : List Value} {ty : TypeId} (h : SR M0 w0 M G ts w s) (k1 : G.blk id = some b) (k2 : w0.heap.size ≤ b) (k3 : G.owner b = some (true, id)) (k4 : w.heap[b]? = some (.cells us.toArray ty (0, 0))) (k7 : ∀ a : Addr, a.block = b → M a = none) :
    SR M0 w0 (Go.Evl.know M b us) G ts w (s.kill id) := by
  have hsub : Sub M (Go.Evl.know M b us) := ⟨fun a v ha => by
    simp only [Go.Evl.know]
    rw [if_neg]; exact ha
    rintro ⟨e, _⟩
    exact absurd ((k7 a e).symm.trans ha) (fun q => nomatch q), fun _ _ _ e => e⟩
  have hne : ∀ a : Addr, a.block ≠ b → Go.Evl.know M b us a = M a := fun a ha => by
    simp only [Go.Evl.know]
    rw [if_neg]; exact fun q => ha q.1
  have hext : ExtS M0 w0 (Go.Evl.know M b us) w := by
    refine ExtS.make h.ext.tab (fun a ha => (hne a (by omega)).trans (h.ext.same a ha)) (fun a v ha => ?_) (fun a v ha => ?_) h.ext.below h.ext.refs h.ext.ok.oldR
    · simp only [Go.Evl.know] at ha
      split at ha
      · rename_i hc
        unfold World.cell?
        rw [hc.1, k4]
        simp [hc.2, ha]
      · exact h.ext.ok.cell a v ha
    · simp only [Go.Evl.know] at ha
      split at ha
      · rename_i hc; rw [hc.1]; exact lt_of_heap k4
      · exact h.ext.ok.old a v ha
  refine ⟨hext, ?_, fun j cs' hj => ?_, fun j v hj => ?_, h.loops, h.recs, h.inj, marks_mono h.marks hsub rfl⟩
  · exact h.frames.map (f := D.kill id) (fun d u hd => (hd.kill id).upd (G' := G) hsub (says_kill d id) (fun _ _ => ⟨rfl, rfl⟩) rfl)
  · obtain ⟨hjne, hj⟩ := get_del_some hj
    obtain ⟨cs0, h0, rfl⟩ := get_mapV_some hj
    refine (h.boxes j cs0 h0).upd (fixes_kill id) hsub rfl (fun b' ho hlt _ => ⟨rfl, rfl, fun a ha => hne a ?_⟩) (fun d u hu => ?_)
    · rw [ha]
      rintro rfl
      rw [k3] at ho; cases ho
      exact hjne rfl
    · exact (hu.kill id).upd hsub (says_kill d id) (fun _ _ => ⟨rfl, rfl⟩) rfl
  · obtain ⟨hjne, hj⟩ := get_del_some hj
    obtain ⟨row, h1, h2, h3⟩ := h.rows j v hj
    refine ⟨row, h1, h2, h3.upd hsub (fun b' ho hlt => ⟨rfl, ho, fun a ha => hne a ?_⟩)⟩
    rw [ha]
    rintro rfl
    rw [k3] at ho; cases ho
/-- An element's value out of its cells. -/
def valOf (t : Ty) (cs : List Value) : Value :=
  match t with
  | .agg _ => .agg cs.toArray
  | _ => cs.headD undef
theorem valOf_R {t : Ty} {e : t.D} {cs : List Value} (h : RL M (t.enc e).cells cs) (hs : ∀ c ∈ cs, single c) : R M (t.enc e) (valOf t cs) ∧ (valOf t cs).cells.toList = cs := by
  have h0 : ∀ v, (t.enc e).cells = [v] → t.enc e = v → valOf t cs = cs.headD undef → R M (t.enc e) (valOf t cs) ∧ (valOf t cs).cells.toList = cs := by
    intro v hv he hvo
    rw [hv] at h
    obtain ⟨u, us, rfl, hu, hus⟩ := RL_cons.1 h
    rw [RL_nil] at hus
    subst hus
    rw [hvo, he]
    refine ⟨hu, ?_⟩
    show u.cells.toList = [u]
    rw [(hs u (by simp)).1]
  cases t with
  | agg ts =>
    have h : RL M (ts.enc e) cs := h
    exact ⟨R_agg.2 ⟨cs, rfl, h, hs⟩, by simp [valOf, Value.cells]⟩
  | _ => exact h0 _ rfl rfl rfl
/-- The values of a row's elements. -/
def valsOf (t : Ty) (us : List Value) (lo n : Nat) : List Value := (List.range n).map fun i => valOf t ((us.drop ((lo + i) * t.csz)).take t.csz)
theorem row_cells {t : Ty} {xs : List t.D} {us : List Value} (h5 : (rowCs t xs).length ≤ us.length) (h6 : ∀ (j : Nat) (d : D) (u : Value), (rowCs t xs)[j]? = some d → us[j]? = some u → RD M G d u ∧ single u) {i : Nat} {e : t.D} (hi : xs[i]? = some e) :
    RL M (t.enc e).cells ((us.drop (i * t.csz)).take t.csz) ∧ ∀ c ∈ (us.drop (i * t.csz)).take t.csz, single c := by
  have hil := (List.getElem?_eq_some_iff.1 hi).1
  have hb : i * t.csz + t.csz ≤ us.length := by
    rw [rowCs_len] at h5
    have : (i + 1) * t.csz ≤ xs.length * t.csz := Nat.mul_le_mul_right _ hil
    rw [Nat.succ_mul] at this
    omega
  obtain ⟨C, q1, q2, _⟩ := row_split hi
  have hget : ∀ j, j < t.csz → (rowCs t xs)[i * t.csz + j]? = ((t.enc e).cells[j]?).map D.p := fun j hj => by
    rw [q1, List.getElem?_append_right (by omega), q2, Nat.add_sub_cancel_left, List.getElem?_append_left (by rw [List.length_map, Ty.enc_cells]; exact hj), List.getElem?_map]
  refine ⟨RL.of_get (by rw [List.length_take, List.length_drop, Ty.enc_cells]; omega) (fun j v u hv hu => ?_), fun c hc => ?_⟩
  · have hj : j < t.csz := by rw [← Ty.enc_cells t e]; exact (List.getElem?_eq_some_iff.1 hv).1
    rw [List.getElem?_take, if_pos hj, List.getElem?_drop] at hu
    exact (h6 _ (.p v) u (by rw [hget j hj, hv]; rfl) hu).1
  · obtain ⟨j, hj⟩ := List.mem_iff_getElem?.1 hc
    rw [List.getElem?_take] at hj
    split at hj
    · rename_i hjc
      rw [List.getElem?_drop] at hj
      have hx : (t.enc e).cells[j]? = some ((t.enc e).cells[j]'(by rw [Ty.enc_cells]; exact hjc)) := List.getElem?_eq_getElem _
      exact (h6 _ _ c (by rw [hget j hjc, hx]; rfl) hj).2
    · cases hj
/-- A slice of a row, from where on the row turns no more. -/
theorem SR.freezeRow {id sz : Nat} {lo len : Int} {u : Value} {ty : Ty} {xs ys : List ty.D} (h : SR M0 w0 M G ts w s) (hu : RD M G (.msl id sz lo len) u) (hb : get s.boxes id = some [.row ty xs]) (hz : ty.csz = sz) (h0 : 0 < sz) (hp : std.part xs lo len = some ys) :
    ∃ M', SR M0 w0 M' G ts w (s.kill id) ∧ R M' (.sl false ty ys) u := by
  obtain ⟨a, n, cap, rfl, rfl, hcap, hlo, hadr⟩ := hu
  simp only [std] at hp
  split at hp
  · rename_i hc
    obtain ⟨c1, c2, c3⟩ := hc
    cases hp
    subst hz
    have hyl : ((xs.drop lo.toNat).take n).length = n := by rw [List.length_take, List.length_drop]; omega
    have hkill : SR M0 w0 M G ts w (s.kill id) := h.fresh id (Sub.refl M) rfl h.ext (fun j _ => ⟨rfl, rfl⟩) rfl rfl (fun b _ => ⟨rfl, rfl, fun _ _ => rfl⟩)
    rcases Nat.eq_zero_or_pos n with hn | hn
    · subst hn
      exact ⟨M, hkill, R_sl.2 ⟨a, cap, by simp, by simp, (fun q => by cases q), .inl (by simp)⟩⟩
    · obtain ⟨b, hb1, rfl⟩ := hadr hn
      have hne : ¬ (isRow [D.row ty xs] = true ∧ expand [D.row ty xs] = []) := by
        rintro ⟨_, hz⟩
        have h5 := congrArg List.length (show rowCs ty xs = [] from hz)
        rw [rowCs_len] at h5
        rcases Nat.mul_eq_zero.1 h5 with h6 | h6 <;> omega
      obtain ⟨b', us, ty', k1, k2, k3, k4, k5, k6, k7⟩ := (h.boxes id _ hb).resolve_left hne
      have k5 : (rowCs ty xs).length ≤ us.length := k5
      have k6 : ∀ (j : Nat) (d : D) (u : Value), (rowCs ty xs)[j]? = some d → us[j]? = some u → RD M G d u ∧ single u := k6
      rw [hb1] at k1
      cases k1
      have hsub : Sub M (Go.Evl.know M b us) := ⟨fun a v ha => by
        simp only [Go.Evl.know]
        rw [if_neg]; exact ha
        rintro ⟨e, _⟩
        exact absurd ((k7.1 a e).symm.trans ha) (fun q => nomatch q), fun _ _ _ e => e⟩
      refine ⟨_, h.know hb1 k2 k3 k4 k7.1, R_sl.2 ⟨_, cap, by rw [List.length_map]; simp only [Int.toNat_natCast] at *; rw [hyl], by rw [List.length_map]; simp only [Int.toNat_natCast] at *; omega, (fun q => by cases q), .inr ⟨⟨b, lo.toNat * ty.csz, none⟩, ty.csz, valsOf ty us lo.toNat n, rfl, h0, ?_, ?_⟩⟩⟩
      · simp only [Int.toNat_natCast]
        refine RL.of_get (by rw [List.length_map, hyl]; simp [valsOf]) (fun i x v hx hv => ?_)
        rw [List.getElem?_map] at hx
        obtain ⟨e, he, rfl⟩ := Option.map_eq_some_iff.1 hx
        rw [List.getElem?_take] at he
        split at he
        · rename_i hin
          rw [List.getElem?_drop] at he
          obtain ⟨g1, g2⟩ := row_cells k5 k6 he
          simp only [valsOf, List.getElem?_map, List.getElem?_range hin, Option.map_some, Option.some.injEq] at hv
          subst hv
          exact R.sub hsub _ _ (valOf_R g1 g2).1
        · cases he
      · intro i v hv
        have hin : i < n := by have := (List.getElem?_eq_some_iff.1 hv).1; simpa [valsOf] using this
        have he : xs[lo.toNat + i]? = some (xs[lo.toNat + i]'(by omega)) := List.getElem?_eq_getElem _
        obtain ⟨g1, g2⟩ := row_cells k5 k6 he
        simp only [valsOf, List.getElem?_map, List.getElem?_range hin, Option.map_some, Option.some.injEq] at hv
        subst hv
        obtain ⟨_, g3⟩ := valOf_R g1 g2
        have hcl : ((us.drop ((lo.toNat + i) * ty.csz)).take ty.csz).length = ty.csz := by rw [g1.length, Ty.enc_cells]
        refine ⟨by rw [← Array.length_toList, g3, hcl], fun c hc => g2 c (by rw [← g3]; exact hc), fun j hj => ?_⟩
        rw [add_plain']
        have e1 : Go.Evl.know M b us ⟨b, lo.toNat * ty.csz + (i * ty.csz + j), none⟩ = us[lo.toNat * ty.csz + (i * ty.csz + j)]? := know_new M b us _
        rw [e1, ← Array.getElem?_toList, g3, List.getElem?_take, if_pos hj, List.getElem?_drop]
        congr 1
        rw [Nat.add_mul]; omega
  · cases hp
/-- The cells of a row's elements, one behind the other. -/
theorem row_flat {t : Ty} : ∀ {xs : List t.D} {us : List Value}, RL M (xs.map t.enc) us → (∀ u ∈ us, u.cells.size = t.csz ∧ ∀ c ∈ u.cells.toList, single c) → ∀ (j : Nat) (d : D) (u : Value), (rowCs t xs)[j]? = some d → (flat us)[j]? = some u → ∃ v, d = .p v ∧ R M v u ∧ single u
  | [], us, _, _, j, d, u, hd, _ => by simp [rowCs_nil] at hd
  | x :: xs, us, h, hz, j, d, u, hd, hu => by
    rw [List.map_cons] at h
    obtain ⟨u0, us', rfl, hx, hr⟩ := RL_cons.1 h
    obtain ⟨hs0, hsg⟩ := hz u0 (by simp)
    have hnt : ∀ vs, t.enc x ≠ .tup vs := by
      intro vs hvs
      rw [hvs] at hx
      obtain ⟨us2, rfl, _⟩ := R_tup.1 hx
      have := (hsg (.tuple us2.toArray) (by simp [Value.cells])).2
      simp [Value.oneCell'] at this
    obtain ⟨hrl, _⟩ := R_cells hx hnt
    have e1 : ((t.enc x).cells.map D.p).length = t.csz := by rw [List.length_map, Ty.enc_cells]
    have e2 : u0.cells.toList.length = t.csz := by simpa using hs0
    rw [rowCs_cons] at hd
    have hfl : flat (u0 :: us') = u0.cells.toList ++ flat us' := rfl
    rw [hfl] at hu
    rcases Nat.lt_or_ge j t.csz with hj | hj
    · rw [List.getElem?_append_left (by omega)] at hd hu
      rw [List.getElem?_map] at hd
      obtain ⟨v, hv, rfl⟩ := Option.map_eq_some_iff.1 hd
      obtain ⟨u', hu', hR⟩ := hrl.get hv
      rw [hu] at hu'; cases hu'
      exact ⟨v, rfl, hR, hsg u (List.mem_of_getElem? hu)⟩
    · rw [List.getElem?_append_right (by omega)] at hd hu
      rw [e1] at hd
      rw [e2] at hu
      exact row_flat hr (fun w hw => hz w (by simp [hw])) _ d u hd hu
theorem rowCs_take {t : Ty} {xs : List t.D} {n : Nat} (h : n ≤ xs.length) : rowCs t (xs.take n) = (rowCs t xs).take (n * t.csz) := by
  have e := rowCs_append t (xs.take n) (xs.drop n)
  rw [List.take_append_drop] at e
  have hl : (rowCs t (xs.take n)).length = n * t.csz := by rw [rowCs_len, List.length_take, Nat.min_eq_left h]
  have h2 : (rowCs t (xs.take n) ++ rowCs t (xs.drop n)).take (n * t.csz) = rowCs t (xs.take n) := by rw [← hl]; exact List.take_left
  rw [← e] at h2
  exact h2.symm
theorem rowCs_drop {t : Ty} {xs : List t.D} {n : Nat} (h : n ≤ xs.length) : rowCs t (xs.drop n) = (rowCs t xs).drop (n * t.csz) := by
  have e := rowCs_append t (xs.take n) (xs.drop n)
  rw [List.take_append_drop] at e
  have hl : (rowCs t (xs.take n)).length = n * t.csz := by rw [rowCs_len, List.length_take, Nat.min_eq_left h]
  have h2 : (rowCs t (xs.take n) ++ rowCs t (xs.drop n)).drop (n * t.csz) = rowCs t (xs.drop n) := by rw [← hl]; exact List.drop_left
  rw [← e] at h2
  exact h2.symm
theorem norm_cells_len (v : V) : v.norm.cells.length = v.cells.length := by
  cases v with
  | agg cs =>
    show ((tysL cs).enc (datL cs)).length = cs.length
    have : ∀ xs : List V, (tysL xs).enc (datL xs) = xs.map V.norm := fun xs => by
      induction xs with
      | nil => rfl
      | cons x xs ih => exact congrArg (x.norm :: ·) ih
    rw [this]; simp
  | _ => rfl
theorem dec_len {t : Ty} {v : V} {d : t.D} (h : t.dec v = some d) : v.cells.length = t.csz := by
  rw [← norm_cells_len, dec_norm t v d h, Ty.enc_cells]
/-- A new row without elements. -/
theorem SR.rowNil (h : SR M0 w0 M G ts w s) (id : Nat) (t : Ty) : SR M0 w0 M G ts w { s.kill id with boxes := put (s.kill id).boxes id [.row t []] } := by
  have hkill : SR M0 w0 M G ts w (s.kill id) := h.fresh id (Sub.refl M) rfl h.ext (fun j _ => ⟨rfl, rfl⟩) rfl rfl (fun b _ => ⟨rfl, rfl, fun _ _ => rfl⟩)
  exact hkill.putBox (.inl ⟨rfl, rfl⟩)
/-- A new row. -/
theorem SR.rowNew (h : SR M0 w0 M G ts w s) (id : Nat) {t : Ty} {xs : List t.D} {us : List Value} {w' : World} {e : TypeId} {v' : Value} (hr : RL M (xs.map t.enc) us) (hz : ∀ u ∈ us, u.cells.size = t.csz ∧ ∀ c ∈ u.cells.toList, single c)
    (hown : w'.ownsRow w.heap.size e t.csz v' xs.length (flat us)) (hbel : Below w.heap.size w w') (ho : ∀ Q : Prop, id % 2 = 1 → Q) :
    ∃ G', SR M0 w0 M G' ts w' { s.kill id with boxes := put (s.kill id).boxes id [.row t xs] } ∧ RD M G' (.msl id t.csz 0 xs.length) v' ∧ G'.lp = G.lp ∧ G'.mark = G.mark := by
  have hext : Ext M w M w' := by
    refine Ext.make h.ext.ok.laid (fun _ _ => rfl) (fun a v ha => ?_) (fun a v ha => Nat.lt_of_lt_of_le (h.ext.ok.old a v ha) hbel.size) hbel rfl (fun a k b c e => Nat.lt_of_lt_of_le (h.ext.ok.oldR a k b c e) hbel.size)
    have hc := h.ext.ok.cell a v ha
    have hb := hbel.block a.block (h.ext.ok.old a v ha)
    unfold World.cell? at hc ⊢
    rw [hb]; exact hc
  obtain ⟨hlen, hor⟩ := hown
  rcases hor with ⟨rfl, hn⟩ | ⟨g, cap, cur, rfl, hg, hheap, hncap, _, hcur, htake⟩
  · have hx : xs = [] := List.eq_nil_of_length_eq_zero hn
    subst hx
    exact ⟨G, (h.later hext).rowNil id t, ⟨none, 0, 0, rfl, rfl, Nat.le_refl _, Int.le_refl _, fun q => by omega⟩, rfl, rfl⟩
  · let G' : Gh := { G with blk := fun j => if j = id then some g else G.blk j, owner := fun b => if b = g then some (true, id) else G.owner b }
    have hG : ∀ j, j ≠ id → G'.blk j = G.blk j ∧ G'.rows j = G.rows j := fun j hj => ⟨if_neg hj, rfl⟩
    have hf : SR M0 w0 M G' ts w' (s.kill id) := h.fresh id (Sub.refl M) rfl (h.ext.trans hext.toExtS) hG rfl rfl (fun b hb => ⟨hbel.block b hb, if_neg (by omega), fun _ _ => rfl⟩)
    refine ⟨G', hf.putBox (.inr ⟨g, cur.toList, e, if_pos rfl, Nat.le_trans h.old hg, if_pos rfl, by rw [Array.toArray_toList]; exact hheap, ?_, fun j d u hj hu => ?_, fun ad ha => ?_, ho _⟩), ⟨_, xs.length, cap, rfl, rfl, hncap, Int.le_refl _, fun _ => ⟨g, if_pos rfl, by simp⟩⟩, rfl, rfl⟩
    · show (rowCs t xs).length ≤ cur.toList.length
      have e1 : cur.toList.length = cap * t.csz := by rw [← hcur]; simp
      rw [rowCs_len, e1]
      exact Nat.mul_le_mul_right _ hncap
    · have hj : (rowCs t xs)[j]? = some d := hj
      have hjl : j < xs.length * t.csz := by rw [← rowCs_len]; exact (List.getElem?_eq_some_iff.1 hj).1
      have hu2 : (flat us)[j]? = some u := by rw [← htake, List.getElem?_take, if_pos hjl]; exact hu
      obtain ⟨v, rfl, hR, hsg⟩ := row_flat hr hz j d u hj hu2
      exact ⟨hR, hsg⟩
    · cases hM : M ad with
      | none => rfl
      | some v => have := h.ext.ok.old ad v hM; omega
end
theorem allV_length : ∀ {ds : List D} {vs : List V}, allV ds = some vs → vs.length = ds.length
  | [], vs, h => by simp [allV] at h; subst h; rfl
  | d :: ds, vs, h => by
    simp only [allV] at h
    split at h
    · cases h
    · split at h
      · rename_i vs' hvs
        cases h
        simp [allV_length hvs]
      · cases h
theorem allV_get : ∀ {ds : List D} {vs : List V}, allV ds = some vs → ∀ {j : Nat} {d : D}, ds[j]? = some d → ∃ v, vs[j]? = some v ∧ d.toV = some v
  | [], vs, h, j, d, hd => by simp at hd
  | d0 :: ds, vs, h, j, d, hd => by
    simp only [allV] at h
    split at h
    · cases h
    · rename_i v0 hv0
      split at h
      · rename_i vs' hvs
        cases h
        cases j with
        | zero => simp at hd; subst hd; exact ⟨v0, rfl, hv0⟩
        | succ j =>
          obtain ⟨v, h1, h2⟩ := allV_get hvs (j := j) (d := d) (by simpa using hd)
          exact ⟨v, by simpa using h1, h2⟩
      · cases h
mutual
theorem Ty.norm_enc : ∀ (t : Ty) (d : t.D), (t.enc d).norm = t.enc d
  | .int _, _ => rfl
  | .bool, _ => rfl
  | .str, _ => rfl
  | .agg ts, d => congrArg V.agg (Tys.norm_enc ts d)
  | .tup ts, d => congrArg V.tup (Tys.norm_enc ts d)
  | .sl _, _ => rfl
  | .ptr ts off, d => congrArg (V.ptr · off) (Tys.norm_enc ts d)
  | .clo f ts, d => congrArg (V.clo f) (Tys.norm_enc ts d)
  | .lit _, _ => rfl
  | .ref _, _ => rfl
theorem Tys.norm_enc : ∀ (ts : Tys) (d : ts.D), (tysL (ts.enc d)).enc (datL (ts.enc d)) = ts.enc d
  | .nil, _ => rfl
  | .cons t ts, d => by
    show (t.enc d.1).norm :: (tysL (ts.enc d.2)).enc (datL (ts.enc d.2)) = t.enc d.1 :: ts.enc d.2
    rw [Ty.norm_enc t, Tys.norm_enc ts]
end
theorem norms_map (xs : List V) : (tysL xs).enc (datL xs) = xs.map V.norm := by
  induction xs with
  | nil => rfl
  | cons x xs ih => exact congrArg (x.norm :: ·) ih
theorem cells_norm (t : Ty) (d : t.D) : (t.enc d).cells.map V.norm = (t.enc d).cells := by
  have h := Ty.norm_enc t d
  generalize t.enc d = v at h ⊢
  cases v with
  | agg cs =>
    have h : V.agg ((tysL cs).enc (datL cs)) = V.agg cs := h
    rw [norms_map] at h
    injection h
  | _ => exact congrArg (fun v => [v]) h
/-- The cells of a content that was made out of cells. -/
theorem ofCells_norm {t : Ty} {cs : List V} {e' : t.D} (h : t.dec (t.ofCells cs) = some e') (hl : cs.length = t.csz) : (t.enc e').cells = cs.map V.norm := by
  have hn := dec_norm t _ e' h
  rw [← hn]
  cases t with
  | agg ts =>
    show ((tysL cs).enc (datL cs)) = _
    rw [norms_map]
  | _ =>
    match cs, hl, hn, h with
    | [v], _, hn, h =>
      show v.norm.cells = [v.norm]
      have hn : v.norm = Ty.enc _ e' := hn
      rw [hn]; rfl
theorem ofCells_cells {t : Ty} {e e' : t.D} {off : Nat} {vs : List V} (h : t.dec (t.ofCells (setRange (t.enc e).cells off vs)) = some e') (hle : off + vs.length ≤ (t.enc e).cells.length) : (t.enc e').cells = setRange (t.enc e).cells off (vs.map V.norm) := by
  have hl : (setRange (t.enc e).cells off vs).length = t.csz := by
    unfold setRange
    have := Ty.enc_cells t e
    simp; omega
  rw [ofCells_norm h hl]
  unfold setRange
  simp only [List.map_append, List.map_take, List.map_drop, List.length_map, cells_norm]
/-- A call of yield, as the machine makes it. -/
def Yields (P : Program) (l : Nat) (args : Array Value) (w : World) (K : Value → World → Prop) : Prop :=
  ∃ fn tmps assign body, (Instr.yield l args).run P w = .ok (.round l fn tmps assign body) w ∧ ∀ n, RoundIn Fence.wide n P l fn tmps assign body w fun e w' => ∃ v, e = .returned v ∧ K v w'
/-- What the loops that are under way do with what is yielded. -/
def EnvOk (P : Program) (M0 : Mem) (w0 : World) (env : Env) (ρ : Nat → Option (Nat × Loop × Nat)) : Prop :=
  ∀ lvl ds s d s', env lvl ds s = some (d, s') → ∃ p, ρ lvl = some p ∧ ∀ M G ts w us, (∀ j q, ρ j = some q → G.lp j = some q) → SR M0 w0 M G ts w s → DL M G ds us →
    Yields P p.1 us.toArray w fun v w' => ∃ M' G', RD M' G' d v ∧ Gstep s.stk.length G G' ∧ SR M0 w0 M' G' ts w' s'
def RunOk (P : Program) (M0 : Mem) (w0 : World) (run : Env → FuncId → List D → St → Option (D × St)) : Prop :=
  ∀ env ρ f ds s d s', EnvOk P M0 w0 env ρ → run env f ds s = some (d, s') → There P f ∧ ∀ M G ts w us, (∀ j q, ρ j = some q → G.lp j = some q) → SR M0 w0 M G ts w s → DL M G ds us →
    Calls P f us.toArray w fun e w' => ∃ v M' G', e = .returned v ∧ RD M' G' d v ∧ Gstep s.stk.length G G' ∧ SR M0 w0 M' G' ts w' s'

section
variable {P : Program} {o : Oper} {cf : FuncId → List V → Option V} {run : Env → FuncId → List D → St → Option (D × St)} {env : Env} {ρ : Nat → Option (Nat × Loop × Nat)}
variable {F : Fence} {n : Nat} {K : Act → World → Prop} {Q : Exit → Act → World → Prop}
variable {M0 : Mem} {w0 : World} {M : Mem} {G : Gh} {a : Act} {ts : List (Array Value)} {w : World} {s : St}

theorem store_run {b off sz : Nat} {t ty : TypeId} {u : Value} {us : List Value} (h1 : tySize P t = some sz) (hu : u.cells.size = sz) (hs : ∀ c ∈ u.cells.toList, single c) (hheap : w.heap[b]? = some (.cells us.toArray ty (0, 0))) (hle : off + sz ≤ us.length) :
    (Instr.storeAt t (.pointer (some ⟨b, off, none⟩)) u).run P w = .ok () (w.setRow b (us.take off ++ u.cells.toList ++ us.drop (off + u.cells.toList.length)).toArray) := by
  have hst := run_storeCells_at P b off ty u.cells.toList 0 us.toArray w hheap (by simp; omega) (fun v hv => (hs v hv).2)
  simp only [Nat.add_zero, List.toList_toArray] at hst
  simp [Instr.storeAt, Instr.sureAddr, storeVar, size_run h1, hu, hst]

theorem wideF_round {l : Nat} {fn : FuncId} {tmps : Array Value} {assign body : Code} {Rr : Ending → World → Prop} (hF : WideF F) (h : RoundIn Fence.wide n P l fn tmps assign body w Rr) : RoundIn F n P l fn tmps assign body w Rr := by
  rcases hF with rfl | ⟨l', rfl⟩
  · exact h
  · exact h

/-- A call that may turn the state. -/
theorem s_run (hF : WideF F) {f : FuncId} {caps : List Value} {c : Call} {fo : Operand} {Rr : Value → World → Prop} (hop : o.op = .call c) (hc : c.callee = .value fo) (hfo : a.eval fo = .func (.func f) #[] caps.toArray) (hth : There P f)
    (hcall : Calls P f (c.args.toList.map a.eval ++ caps).toArray w fun e w' => ∃ v, e = .returned v ∧ Rr v w') (hK : ∀ v w', Rr v w' → K (a.put o.dst v) w') : o.wpIn F n P a w K Q := by
  refine wpIn_enter hF (fun c' hc' => by rw [hop] at hc'; cases hc') (f := f) (args := (c.args.toList.map a.eval ++ caps).toArray) (w' := w) ?_ (hcall.mono ?_)
  · have e : (c.args.toList.map a.eval ++ caps).toArray = c.args.map a.eval ++ caps.toArray := by
      apply Array.ext'
      simp
    rw [e]
    simp [execOp, hop, hc, resolve, hfo, Deferred.ofValue, invoke, run_callFunc hth]
  · rintro e w' ⟨v, rfl, hv⟩
    exact ⟨v, rfl, hK v w' hv⟩
/-- A call of yield. -/
theorem s_yield (hF : WideF F) {l : Nat} {c : Call} {fo : Operand} {Rr : Value → World → Prop} (hop : o.op = .call c) (hc : c.callee = .value fo) (hfo : a.eval fo = .func (.yield l) #[] #[])
    (hy : Yields P l (c.args.toList.map a.eval).toArray w Rr) (hK : ∀ v w', Rr v w' → K (a.put o.dst v) w') : o.wpIn F n P a w K Q := by
  obtain ⟨fn, tmps, assign, body, h1, h2⟩ := hy
  refine ⟨fun f _ => hF.fn f, ?_⟩
  rw [semAt_eq (fun c' hc' => by rw [hop] at hc'; cases hc')]
  have e : (execOp a.eval o).run P w = .ok (.round l fn tmps assign body) w := by
    rw [map_arr] at h1
    simp [execOp, hop, hc, resolve, hfo, Deferred.ofValue, invoke, h1]
  rw [e, Oper.uponIn_round]
  refine ⟨fun hs => ?_, wideF_round hF ((h2 _).mono ?_)⟩
  · rw [hF.depth] at hs
    cases hs
  · rintro e w' ⟨v, rfl, hv⟩
    exact hK v w' hv

theorem ev1_sound (hF : WideF F) (hcf : CfOk P cf) (hrun : RunOk P M0 w0 run) (henv : EnvOk P M0 w0 env ρ) (hρ : ∀ j q, ρ j = some q → G.lp j = some q) (h : SR M0 w0 M G (a.tmps :: ts) w s) {x : O} {dst : Nat} {d' : D} {s' : St} (hok : okOp P o.op x = true) (he : ev1 ⟨std, cf, run⟩ env dst s x = some (d', s'))
    (hK : ∀ v M' G' w', Gstep s.stk.length G G' → SR M0 w0 M' G' (a.tmps :: ts) w' s' → RD M' G' d' v → K (a.put o.dst v) w') : o.wpIn F n P a w K Q := by
  have rest : (match ev0 std cf (rdA s.regs) (get s.boxes) x with | some v => some (v, s) | none => none) = some (d', s') → o.wpIn F n P a w K Q := by
    intro he
    split at he
    · rename_i v hv
      simp only [Option.some.injEq, Prod.mk.injEq] at he
      obtain ⟨rfl, rfl⟩ := he
      exact ev0_sound hF hcf h.ext.ok h.boxes hok (h.reads _) hv (fun v' M' w' hx hr => hK v' M' G w' (Gstep.refl _ _) (h.later hx) hr)
    · cases he
  cases x with
  | call f as =>
    simp only [ev1] at he
    have other : run env f (List.map (rdA s.regs) as) s = some (d', s') → o.wpIn F n P a w K Q := by
      intro he
      obtain ⟨c, hop, hc, h1⟩ := ok_call hok
      obtain ⟨hth, hs⟩ := hrun env ρ f _ s d' s' henv he
      have hargs := opdsD h1 (h.reads _)
      refine s_run hF hop hc (caps := []) rfl hth ((hs M G _ w _ hρ h hargs).mono ?_ |> fun q => by simpa using q) (Rr := fun v w' => ∃ M' G', RD M' G' d' v ∧ Gstep s.stk.length G G' ∧ SR M0 w0 M' G' (a.tmps :: ts) w' s') (fun v w' ⟨M', G', k1, k2, k3⟩ => hK v M' G' w' k2 k3 k1)
      rintro e w' ⟨v, M', G', rfl, k1, k2, k3⟩
      exact ⟨v, rfl, M', G', k1, k2, k3⟩
    split at he
    · rename_i vs hvs
      cases hn : (tysL vs).nr with
      | true =>
        rw [hn] at he
        refine rest ?_
        simp only [ev0, hvs]
        cases hv : cf f vs with
        | none => rw [hv] at he; simp [pvs] at he
        | some v => rw [hv] at he; simpa [pvs, pv] using he
      | false =>
        rw [hn] at he
        exact other he
    · exact other he
  | callv g as =>
    simp only [ev1] at he
    split at he
    · rename_i f caps hg
      have other : run env f (List.map (rdA s.regs) as ++ List.map D.p caps) s = some (d', s') → o.wpIn F n P a w K Q := by
        intro he
        obtain ⟨c, fo, hop, hc, h0, h1⟩ := ok_callv hok
        have hgv := opd h0 (h.reads _)
        rw [hg] at hgv
        have hgv : R M (.clo f caps) _ := hgv
        rw [R] at hgv
        obtain ⟨us, e, hus⟩ := hgv
        obtain ⟨hth, hs⟩ := hrun env ρ f _ s d' s' henv he
        have hargs := (opdsD h1 (h.reads _)).append (DL.ofRL (G := G) hus)
        refine s_run hF hop hc (caps := us) e hth ((hs M G _ w _ hρ h hargs).mono ?_) (Rr := fun v w' => ∃ M' G', RD M' G' d' v ∧ Gstep s.stk.length G G' ∧ SR M0 w0 M' G' (a.tmps :: ts) w' s') (fun v w' ⟨M', G', k1, k2, k3⟩ => hK v M' G' w' k2 k3 k1)
        rintro e w' ⟨v, M', G', rfl, k1, k2, k3⟩
        exact ⟨v, rfl, M', G', k1, k2, k3⟩
      split at he
      · rename_i vs hvs
        cases hn : (tysL (vs ++ caps)).nr with
        | true =>
          rw [hn] at he
          refine rest ?_
          simp only [ev0, hvs, hg]
          cases hv : cf f (vs ++ caps) with
          | none => rw [hv] at he; simp [pvs] at he
          | some v => rw [hv] at he; simpa [pvs, pv] using he
        | false =>
          rw [hn] at he
          exact other he
      · exact other he
    · rename_i f cs hg
      obtain ⟨c, fo, hop, hc, h0, h1⟩ := ok_callv hok
      have hgv := opd h0 (h.reads _)
      rw [hg] at hgv
      obtain ⟨us, e, hus⟩ := hgv
      obtain ⟨hth, hs⟩ := hrun env ρ f _ s d' s' henv he
      have hargs := (opdsD h1 (h.reads _)).append (DL.ofRC hus)
      refine s_run hF hop hc (caps := us) e hth ((hs M G _ w _ hρ h hargs).mono ?_) (Rr := fun v w' => ∃ M' G', RD M' G' d' v ∧ Gstep s.stk.length G G' ∧ SR M0 w0 M' G' (a.tmps :: ts) w' s') (fun v w' ⟨M', G', k1, k2, k3⟩ => hK v M' G' w' k2 k3 k1)
      rintro e w' ⟨v, M', G', rfl, k1, k2, k3⟩
      exact ⟨v, rfl, M', G', k1, k2, k3⟩
    · rename_i lvl hg
      obtain ⟨c, fo, hop, hc, h0, h1⟩ := ok_callv hok
      have hgv := opd h0 (h.reads _)
      rw [hg] at hgv
      obtain ⟨l, r, hh, hlp, e⟩ := hgv
      obtain ⟨p, hp, hs⟩ := henv lvl _ s d' s' he
      have := hρ lvl p hp
      rw [hlp] at this
      cases this
      exact s_yield hF hop hc e (hs M G _ w _ hρ h (opdsD h1 (h.reads _))) (fun v w' ⟨M', G', k1, k2, k3⟩ => hK v M' G' w' k2 k3 k1)
    · cases he
  | mkf f as =>
    simp only [ev1] at he
    split at he
    · rename_i vs hvs
      refine rest ?_
      simp only [ev0, hvs]
      exact he
    · split at he
      · rename_i cs hcs
        simp only [Option.some.injEq, Prod.mk.injEq] at he
        obtain ⟨rfl, rfl⟩ := he
        obtain ⟨caps, hop, h1⟩ := ok_mkf hok
        have hargs := opdsD h1 (h.reads _)
        have hrc := toCps_RC hcs hargs
        refine wpIn_val hF (fun c hc => by rw [hop] at hc; cases hc) (v := .func (.func f) #[] (caps.toList.map a.eval).toArray) (w' := w) ?_ (hK _ M G _ (Gstep.refl _ _) h ⟨_, rfl, hrc⟩)
        rw [map_arr]
        simp [execOp, hop, Instr.makeFunc]
      · cases he
  | alloc zero =>
    obtain ⟨t, inf, z, hop, h1, h2, h3⟩ := ok_alloc hok
    simp only [ev1, Option.some.injEq, Prod.mk.injEq] at he
    obtain ⟨rfl, rfl⟩ := he
    obtain ⟨hz, hs⟩ := okVs_RL (M := M) h3
    obtain ⟨G', hSR, hRD, hlp, hmk⟩ := h.newBox (s.num dst) (us := z.cells.toList) (cs := zero.map D.p) t num_even (isRow_map_p zero) (by simp [hz.length]) (fun j d u hj hu => by
      rw [List.getElem?_map] at hj
      obtain ⟨x, hx, rfl⟩ := Option.map_eq_some_iff.1 hj
      obtain ⟨u', hu', hr⟩ := hz.get hx
      rw [hu] at hu'; cases hu'
      exact ⟨hr, hs u (List.mem_of_getElem? hu), rfl⟩)
    rw [Array.toArray_toList] at hSR
    refine wpIn_val hF (fun c hc => by rw [hop] at hc; cases hc) (v := .pointer (some ⟨w.heap.size, 0, none⟩)) (w' := w.alloc (.cells z.cells t)) ?_ (hK _ M G' _ (Gstep.same hlp hmk) hSR hRD)
    simp [execOp, hop, Instr.alloc, zeroValue, typeInfo, h1, h2, newVar, newRow]
  | boxm x =>
    obtain ⟨t, y, hop, h1⟩ := ok_boxm hok
    simp only [ev1] at he
    split at he
    · rename_i cs hcs
      simp only [Option.some.injEq, Prod.mk.injEq] at he
      obtain ⟨rfl, rfl⟩ := he
      have hv := (opd h1 (h.reads _)).kill (s.num dst)
      obtain ⟨hl, hc⟩ := D_cells hv hcs
      obtain ⟨G', hSR, hRD, hlp, hmk⟩ := h.newBox (s.num dst) (us := (a.eval y).cells.toList) (cs := cs) t num_even (isRow_cells hcs) hl (fun j d u hj hu => by
        obtain ⟨q1, q2, q3⟩ := hc j d u hj hu
        exact ⟨q1, q2, q3 (s.num dst) (says_kill _ (s.num dst))⟩)
      rw [Array.toArray_toList] at hSR
      refine wpIn_val hF (fun c hc => by rw [hop] at hc; cases hc) (v := .pointer (some ⟨w.heap.size, 0, none⟩)) (w' := w.alloc (.cells (a.eval y).cells t)) ?_ (hK _ M G' _ (Gstep.same hlp hmk) hSR hRD)
      simp [execOp, hop, Instr.box, newVar, newRow]
    · cases he
  | store sz x y =>
    obtain ⟨t, x', y', hop, h1, h2, h3⟩ := ok_store hok
    simp only [ev1] at he
    split at he
    · rename_i id off ds hx hy
      split at he
      · rename_i cs hcs
        obtain ⟨hc, he⟩ := cond_some he
        simp only [Bool.and_eq_true, beq_iff_eq, Nat.ble_eq, Bool.not_eq_true'] at hc
        obtain ⟨⟨hrow1, hrow2⟩, hc⟩ := hc
        simp only [Option.some.injEq, Prod.mk.injEq] at he
        obtain ⟨rfl, rfl⟩ := he
        have hxv := opd h1 (h.reads _)
        rw [hx] at hxv
        obtain ⟨b, hb, hxe⟩ := hxv
        obtain ⟨b', us, ty, k1, k2, k3, k4, k5, k6, k7⟩ := (h.boxes id cs hcs).cells hrow1
        rw [hb] at k1
        cases k1
        have hyv := opd h2 (h.reads _)
        obtain ⟨q1, q2⟩ := D_cells hyv hy
        have hsz : (a.eval y').cells.size = sz := by rw [← hc.1, ← q1]; simp
        have hsing : ∀ c ∈ (a.eval y').cells.toList, single c := fun c hcm => by
          obtain ⟨j, hj⟩ := List.mem_iff_getElem?.1 hcm
          have hlt : j < ds.length := by rw [← q1]; exact (List.getElem?_eq_some_iff.1 hj).1
          exact (q2 j _ c (List.getElem?_eq_getElem hlt) hj).2.1
        have hrun := store_run (P := P) (off := off) h3 hsz hsing k4 (by omega)
        have ha2 : All2 (fun d u => RD M G d u ∧ single u) ds (a.eval y').cells.toList := ⟨q1, fun j d u hd hu => ⟨(q2 j d u hd hu).1, (q2 j d u hd hu).2.1⟩⟩
        have ha3 := Pre2.setRange (off := off) ⟨k5, k6⟩ ha2 (by omega)
        rw [← expand_of hrow2] at ha3
        rw [q1] at hrun
        refine wpIn_unit hF (fun c hc => by rw [hop] at hc; cases hc) (w' := w.setRow b (us.take off ++ (a.eval y').cells.toList ++ us.drop (off + ds.length)).toArray) ?_ (hK _ M G _ (Gstep.refl _ _) (h.setBox hb k2 k3 k4 k7 (by simp; omega) ha3) trivial)
        simp only [execOp, hop, hxe, Sem.run_bind, hrun, Result.andThen_ok]
        rfl
      · cases he
    · rename_i id sz' i off ds hx hy
      split at he
      · rename_i ty xs vs hcs hvs
        obtain ⟨hc, he⟩ := cond_some he
        simp only [Bool.and_eq_true, beq_iff_eq, Nat.ble_eq, Nat.blt_eq] at hc
        obtain ⟨⟨hc0, hc1⟩, hc2, hc3⟩ := hc
        split at he
        · rename_i e hi
          split at he
          · rename_i e' hdec
            simp only [Option.some.injEq, Prod.mk.injEq] at he
            obtain ⟨rfl, rfl⟩ := he
            obtain ⟨hi0, hilt, hget⟩ := idx_get hi
            have hxv := opd h1 (h.reads _)
            rw [hx] at hxv
            obtain ⟨_, b, hb, hxe⟩ := hxv
            subst hc0
            have hne : ¬ (isRow [D.row ty xs] = true ∧ expand [D.row ty xs] = []) := by
              rintro ⟨_, hz⟩
              have h5 := congrArg List.length (show rowCs ty xs = [] from hz)
              rw [rowCs_len] at h5
              rcases Nat.mul_eq_zero.1 h5 with h6 | h6 <;> omega
            obtain ⟨b', us, ty', k1, k2, k3, k4, k5, k6, k7⟩ := (h.boxes id _ hcs).resolve_left hne
            have k5 : (rowCs ty xs).length ≤ us.length := k5
            rw [hb] at k1
            cases k1
            have hyv := opd h2 (h.reads _)
            obtain ⟨q1, q2⟩ := D_cells hyv hy
            have hsz : (a.eval y').cells.size = sz := by rw [← hc2, ← q1]; simp
            have hsing : ∀ c ∈ (a.eval y').cells.toList, single c := fun c hcm => by
              obtain ⟨j, hj⟩ := List.mem_iff_getElem?.1 hcm
              have hlt : j < ds.length := by rw [← q1]; exact (List.getElem?_eq_some_iff.1 hj).1
              exact (q2 j _ c (List.getElem?_eq_getElem hlt) hj).2.1
            have hbd : i.toNat * ty.csz + off + sz ≤ (rowCs ty xs).length := by
              rw [rowCs_len]
              have : (i.toNat + 1) * ty.csz ≤ xs.length * ty.csz := Nat.mul_le_mul_right _ hilt
              rw [Nat.add_mul] at this
              omega
            have hrun := store_run (P := P) (off := i.toNat * ty.csz + off) h3 hsz hsing k4 (by omega)
            -- the contents of the cells
            have hvl : vs.length = ds.length := allV_length hvs
            have hdvs : ∀ j u, (a.eval y').cells.toList[j]? = some u → ∃ v, vs[j]? = some v ∧ R M v u ∧ single u := fun j u hu => by
              have hlt : j < ds.length := by rw [← q1]; exact (List.getElem?_eq_some_iff.1 hu).1
              obtain ⟨v, hv1, hv2⟩ := allV_get hvs (List.getElem?_eq_getElem hlt)
              obtain ⟨g1, g2, _⟩ := q2 j _ u (List.getElem?_eq_getElem hlt) hu
              exact ⟨v, hv1, g1.toV hv2, g2⟩
            have hcells : (ty.enc e').cells = setRange (ty.enc e).cells off (vs.map V.norm) := ofCells_cells hdec (by rw [Ty.enc_cells]; omega)
            have hset := set_row (e' := e') hget (off := off) (vs := vs.map V.norm) (by rw [List.length_map]; omega) hcells
            have ha2 : All2 (fun d u => RD M G d u ∧ single u) ((vs.map V.norm).map D.p) (a.eval y').cells.toList := by
              refine ⟨by rw [List.length_map, List.length_map, hvl, q1], fun j d u hd hu => ?_⟩
              obtain ⟨v, hv1, hv2, hv3⟩ := hdvs j u hu
              rw [List.getElem?_map, List.getElem?_map, hv1] at hd
              cases hd
              exact ⟨hv2.norm, hv3⟩
            have ha3 := Pre2.setRange (off := i.toNat * ty.csz + off) ⟨k5, k6⟩ ha2 (by rw [List.length_map, List.length_map]; omega)
            have he3 : expand [D.row ty (std.set xs i e')] = setRange (rowCs ty xs) (i.toNat * ty.csz + off) ((vs.map V.norm).map D.p) := hset
            rw [← he3] at ha3
            have hlen : ((vs.map V.norm).map D.p).length = (a.eval y').cells.toList.length := ha2.1.symm
            rw [hlen] at ha3
            refine wpIn_unit hF (fun c hc => by rw [hop] at hc; cases hc) (w' := w.setRow b (us.take (i.toNat * ty.csz + off) ++ (a.eval y').cells.toList ++ us.drop (i.toNat * ty.csz + off + (a.eval y').cells.toList.length)).toArray) ?_ (hK _ M G _ (Gstep.refl _ _) (h.setBox hb k2 k3 k4 k7 (by simp; omega) ha3) trivial)
            simp only [execOp, hop, hxe, Sem.run_bind, hrun, Result.andThen_ok]
            rfl
          · cases he
        · cases he
      · cases he
    · cases he
  | app sz bytes x y =>
    obtain ⟨c, t, t', e, e', x', y', i, z, hop, hc, hargs, htys, h1, h2, h3, h4, h5, h6, h7, h8, h9, h10, h11⟩ := ok_app hok
    simp only [ev1] at he
    split at he
    · rename_i fy ty' ys' hy
      have hyv := (opd h2 (h.reads _)).toV hy
      have hrunop : ∀ v' w', (Builtin.append_ #[t, t'] o.type #[a.eval x', a.eval y']).run P w = .ok v' w' → (execOp a.eval o).run P w = .ok (.value v') w' := by
        intro v' w' hr
        have hargs' : c.args = #[x', y'] := by apply Array.ext'; rw [hargs]
        have htys' : c.argTypes = #[t, t'] := by apply Array.ext'; rw [htys]
        simp only [execOp, hop, hc, hargs', htys', resolve, invoke, builtin, Sem.run_bind, Sem.run_pure, Result.andThen_ok, List.map_toArray, List.map_cons, List.map_nil, hr]
      split at he
      · rename_i ty xs hx
        split at he
        rotate_left
        · cases he
        rename_i ys hcast
        obtain ⟨hty, hheq⟩ := castL_enc hcast
        subst hty
        have hheq := eq_of_heq hheq
        subst hheq
        obtain ⟨hcnd, he⟩ := cond_some he
        simp only [Bool.and_eq_true, beq_iff_eq] at hcnd
        simp only [Option.some.injEq, Prod.mk.injEq] at he
        obtain ⟨rfl, rfl⟩ := he
        have hdd : kOf (s.num dst) = none := kOf_num
        generalize s.num dst = dd at hK hdd ⊢
        have hxv := opd h1 (h.reads _)
        rw [hx] at hxv
        have hxv : R M (.sl true ty' xs) (a.eval x') := hxv
        have hrow : ∃ us sz', RL M (xs.map ty'.enc) us ∧ RowAt none M w0.heap.size w (fun _ => False) (a.eval x') us sz' := by
          obtain ⟨ao, cap, k1, k2, k3, k4⟩ := R_sl.1 hxv
          have k3 := k3 rfl
          subst k3
          rcases k4 with k4 | ⟨ad, sz', us, rfl, k5, k6, k7⟩
          · rw [List.map_eq_nil_iff] at k4
            subst k4
            exact ⟨[], 0, by rw [List.map_nil, RL], ao, 0, k1, .inl ⟨rfl, .inl rfl⟩⟩
          · exact ⟨us, sz', k6, some ad, (xs.map ty'.enc).length, by rw [k6.length]; exact k1, .inl ⟨k6.length.symm, .inr ⟨ad, rfl, k5, k7, rfl⟩⟩⟩
        obtain ⟨us, sz', hxs, hrow⟩ := hrow
        obtain ⟨v', M', w', vs, sz'', hrun, hrv, hrow', hsub, hrfs, hok', hbel, hM, hH, hO⟩ := app_core (ty := o.type) (kk := none) (fun _ q => by cases q) h.ext.ok h.old h3 h4 h5 h6 h7 h8 h9 h10 h11 hrow hxs (sizedL_enc hcnd.1 _) (R_sl.1 hyv) (sizedL_enc hcnd.1 _) (fits_enc hcnd.2)
        let G' : Gh := { G with rows := fun j => if j = dd then some ⟨0, v', us ++ vs, sz''⟩ else G.rows j, owner := fun b => if b = w.heap.size then some (false, dd) else G.owner b }
        have hG : ∀ j, j ≠ dd → G'.blk j = G.blk j ∧ G'.rows j = G.rows j := fun j hj => ⟨rfl, if_neg hj⟩
        have hr2 : RL M' ((xs ++ ys').map ty'.enc) (us ++ vs) := by rw [List.map_append]; exact (RL.sub hsub _ _ hxs).append (RL.sub hsub _ _ hrv)
        have hext : ExtS M0 w0 M' w' := ExtS.make h.ext.tab (fun ad ha => (hM ad (Nat.lt_of_lt_of_le ha h.old) (by simp)).trans (h.ext.same ad ha)) hok'.cell hok'.old (h.ext.below.trans hbel) (fun a i x e => hsub.ref a i x (h.ext.refs a i x e)) hok'.oldR
        have hf : SR M0 w0 M' G' (a.tmps :: ts) w' (s.kill dd) := h.fresh dd hsub hrfs hext hG rfl rfl (fun b hb => ⟨hH b hb (by simp), if_neg (by omega), fun ad ha => hM ad (by omega) (by simp)⟩)
        refine wpIn_val hF (fun c hc => by rw [hop] at hc; cases hc) (hrunop v' w' hrun) (hK v' M' G' w' (Gstep.same rfl rfl) (hf.putRow ⟨⟨0, v', us ++ vs, sz''⟩, if_pos rfl, rfl, ?_⟩) ⟨hrow'.R hr2, fun row hr => ?_⟩)
        · rw [hdd]
          exact hrow'.upd (Sub.refl _) (fun b ho hlt => ⟨rfl, by
            rcases ho with ho | ho
            · exact ho.elim
            · exact if_pos ho, fun _ _ => rfl⟩)
        · have : some (⟨0, v', us ++ vs, sz''⟩ : Row) = some row := (if_pos (c := dd = dd) rfl).symm.trans hr
          cases this
          exact ⟨Nat.le_refl _, fun _ => ⟨rfl, hr2⟩⟩
      · rename_i id ver ty xs hx
        split at he
        · rename_i v hv
          split at he
          rotate_left
          · cases he
          rename_i ys hcast
          obtain ⟨hty, hheq⟩ := castL_enc hcast
          subst hty
          have hheq := eq_of_heq hheq
          subst hheq
          obtain ⟨hcnd, he⟩ := cond_some he
          simp only [Bool.and_eq_true, beq_iff_eq] at hcnd
          obtain ⟨⟨rfl, hev⟩, hcnd⟩ := hcnd
          simp only [Option.some.injEq, Prod.mk.injEq] at he
          obtain ⟨rfl, rfl⟩ := he
          have hxv := opd h1 (h.reads _)
          rw [hx] at hxv
          obtain ⟨row, k1, k2, k3⟩ := h.rows id v hv
          obtain ⟨hsv, hxs⟩ := (hxv.2 row k1).2 k2
          rw [← hsv] at k3
          obtain ⟨v', M', w', vs, sz'', hrun, hrv, hrow', hsub, hrfs, hok', hbel, hM, hH, hO⟩ := app_core (ty := o.type) (kk := kOf id) (fun _ q => by rw [kOf_even hev] at q; cases q) h.ext.ok h.old h3 h4 h5 h6 h7 h8 h9 h10 h11 k3 hxs (sizedL_enc hcnd.1 _) (R_sl.1 hyv) (sizedL_enc hcnd.1 _) (fits_enc hcnd.2)
          let row' : Row := ⟨v + 1, v', row.us ++ vs, sz''⟩
          let G' : Gh := { G with rows := fun j => if j = id then some row' else G.rows j, owner := fun b => if b = w.heap.size then some (false, id) else G.owner b }
          have hr2 : RL M' ((xs ++ ys').map ty'.enc) (row.us ++ vs) := by rw [List.map_append]; exact (RL.sub hsub _ _ hxs).append (RL.sub hsub _ _ hrv)
          have hext : ExtS M0 w0 M' w' := ExtS.make h.ext.tab (fun ad ha => (hM ad (Nat.lt_of_lt_of_le ha h.old) (by omega)).trans (h.ext.same ad ha)) hok'.cell hok'.old (h.ext.below.trans hbel) (fun a i x e => hsub.ref a i x (h.ext.refs a i x e)) hok'.oldR
          have bump : ∀ (d : D) (u : Value), RD M G d u → RD M' G' d u := fun d u hd => rd_bump hd hsub k1 (fun _ => rfl) (if_pos rfl) (fun j hj => if_neg hj) rfl (by show v + 1 = row.ver + 1; rw [k2])
          have keep : ∀ b, b < w.heap.size → ¬ G.owner b = some (false, id) → w'.heap[b]? = w.heap[b]? ∧ G'.owner b = G.owner b ∧ ∀ ad : Addr, ad.block = b → M' ad = M ad := fun b hb ho =>
            ⟨hH b hb (fun q => ho q.1), if_neg (by omega), fun ad ha => hM ad (by omega) (fun q => ho (by rw [← ha]; exact q.1))⟩
          obtain ⟨st1, st2⟩ := h.still hO
          refine wpIn_val hF (fun c hc => by rw [hop] at hc; cases hc) (hrunop v' w' hrun) (hK v' M' G' w' (Gstep.same rfl rfl) ⟨hext, h.frames.imp bump, fun j cs hj => ?_, fun j u hj => ?_, st1, h.recs, h.inj, marks_mono st2 hsub hrfs⟩ ⟨hrow'.R hr2, fun r hr => ?_⟩)
          · exact (h.boxes j cs hj).upd' hsub rfl (fun b ho hlt _ => keep b hlt (by rw [ho]; simp)) (fun d u hu => bump _ _ hu)
          · by_cases ej : j = id
            · subst ej
              simp only [get_put_same, Option.some.injEq] at hj
              subst hj
              exact ⟨row', if_pos rfl, rfl, hrow'.upd (Sub.refl _) (fun b ho hlt => ⟨rfl, by
                by_cases hbs : b = w.heap.size
                · exact if_pos hbs
                · rcases ho with ho | ho
                  · exact (if_neg hbs).trans ho
                  · exact absurd ho hbs, fun _ _ => rfl⟩)⟩
            · rw [get_put_ne _ _ ej] at hj
              obtain ⟨r, q1, q2, q3⟩ := h.rows j u hj
              refine ⟨r, (if_neg ej).trans q1, q2, q3.upd hsub (fun b ho hlt => ?_)⟩
              obtain ⟨p1, p2, p3⟩ := keep b hlt (by rw [ho]; simp; exact ej)
              exact ⟨p1, p2.trans ho, p3⟩
          · have : some row' = some r := (if_pos (c := id = id) rfl).symm.trans hr
            cases this
            exact ⟨Nat.le_refl _, fun _ => ⟨rfl, hr2⟩⟩
        · cases he
      · cases he
    · cases he
  | frz x =>
    obtain ⟨y, hop, h1⟩ := ok_frz hok
    have hxv := opd h1 (h.reads _)
    have hdef : ∀ c, o.op ≠ .defer c := by
      intro c hc
      rcases hop with hop | hop <;> (rw [hop] at hc; cases hc)
    have hrun : (execOp a.eval o).run P w = .ok (.value (a.eval y)) w := by
      rcases hop with hop | hop <;> simp [execOp, hop]
    simp only [ev1] at he
    split at he
    · rename_i id sz lo len hx
      rw [hx] at hxv
      split at he
      · rename_i ty xs hb
        obtain ⟨hz, he⟩ := cond_some he
        simp only [Bool.and_eq_true, beq_iff_eq, Nat.blt_eq] at hz
        split at he
        · rename_i ys hp
          simp only [Option.some.injEq, Prod.mk.injEq] at he
          obtain ⟨rfl, rfl⟩ := he
          obtain ⟨M', h', hR⟩ := h.freezeRow hxv hb hz.1 hz.2 hp
          exact wpIn_val hF hdef hrun (hK _ M' G _ (Gstep.refl _ _) h' hR)
        · cases he
      · cases he
    · simp only [Option.some.injEq, Prod.mk.injEq] at he
      obtain ⟨rfl, rfl⟩ := he
      exact wpIn_val hF hdef hrun (hK _ M G _ (Gstep.refl _ _) h hxv)
  | cln f sz bytes x =>
    obtain ⟨c, y, hop, hc, hargs, h1⟩ := ok_cln hok
    simp only [ev1] at he
    split at he
    · rename_i sz' bytes' fl ty xs hcl hx
      obtain ⟨hz, he2⟩ := cond_some he
      clear he
      simp only [Bool.and_eq_true, beq_iff_eq] at hz
      obtain ⟨⟨e1, e2⟩, e3, hfit⟩ := hz
      subst e1; subst e2; subst e3
      simp only [Option.some.injEq, Prod.mk.injEq] at he2
      obtain ⟨rfl, rfl⟩ := he2
      obtain ⟨h0, hth, hnil, hsome⟩ := hcf.clones f _ _ hcl
      have hxv := (opd h1 (h.reads _)).toV hx
      obtain ⟨ao, cap, hv, hcap, hfull, hor⟩ := R_sl.1 hxv
      rw [List.length_map] at hv
      have hargs' : (c.args.toList.map a.eval ++ []).toArray = #[a.eval y] := by rw [hargs]; rfl
      refine s_run hF hop hc (caps := []) rfl hth (Rr := fun v w' => ∃ G', SR M0 w0 M G' (a.tmps :: ts) w' { s.kill (s.num dst) with boxes := put (s.kill (s.num dst)).boxes (s.num dst) [.row ty xs] } ∧ RD M G' (.msl (s.num dst) ty.csz 0 xs.length) v ∧ G'.lp = G.lp ∧ G'.mark = G.mark) ?_ (fun v w' ⟨G', k1, k2, k3, k4⟩ => hK v M G' w' (Gstep.same k3 k4) k1 k2)
      rw [hargs', hv]
      cases ao with
      | none =>
        have hxn : xs = [] := by
          rcases hor with hor | ⟨ad, _, _, e, _⟩
          · exact List.map_eq_nil_iff.1 hor
          · cases e
        subst hxn
        refine (hnil _ cap w).mono ?_
        rintro e w' ⟨rfl, rfl⟩
        exact ⟨_, rfl, G, h.rowNil _ ty, ⟨none, 0, 0, rfl, rfl, Nat.le_refl _, Int.le_refl _, fun q => by omega⟩, rfl, rfl⟩
      | some ad =>
        have hnews : ∃ us, RL M (xs.map ty.enc) us ∧ (∀ u ∈ us, u.cells.size = ty.csz ∧ ∀ c ∈ u.cells.toList, single c) ∧ ∀ j u, (flat us)[j]? = some u → w.cell? (ad.add j) = some u := by
          rcases hor with hor | ⟨ad', sz', us, e, hz', hrl, hlaid⟩
          · rw [List.map_eq_nil_iff] at hor
            subst hor
            exact ⟨[], by rw [List.map_nil, RL], by simp, by simp [flat]⟩
          · cases e
            by_cases hxn : xs = []
            · subst hxn
              exact ⟨[], by rw [List.map_nil, RL], by simp, by simp [flat]⟩
            · have hse := hlaid.size_eq hrl (sizedL_enc rfl xs) (by simpa using hxn)
              subst hse
              refine ⟨us, hrl, fun u hu => ⟨hlaid.sizes u hu, ?_⟩, fun j u hj => h.ext.ok.cell _ _ (hlaid.known hz' hj)⟩
              obtain ⟨i, hi⟩ := List.mem_iff_getElem?.1 hu
              exact (hlaid i u hi).2.1
        obtain ⟨us, hrl, hsz, hcell⟩ := hnews
        have hlen : (flat us).length = xs.length * ty.csz := by
          rw [flat_length (sz := ty.csz) (fun u hu => (hsz u hu).1), hrl.length, List.length_map]
        have hfit : xs.length * bytes ≤ 140737488355328 := by simpa [std] using hfit
        refine (hsome ad xs.length cap (flat us) w hlen hfit hcell (fun u hu => ?_)).mono ?_
        · obtain ⟨v, hv1, hv2⟩ := List.mem_flatMap.1 hu
          exact ((hsz v hv1).2 u hv2).2
        · rintro e w' ⟨v', t, rfl, hown, hbel⟩
          exact ⟨v', rfl, h.rowNew _ hrl hsz hown hbel (fun _ => num_even)⟩
    · cases he
  | clr zero x =>
    obtain ⟨c, t, e, y, i, z, hop, hc, hargs, htys, h1, h2, h3, h4, h5, h6⟩ := ok_clr hok
    have hxv := opd h1 (h.reads _)
    have hdef : ∀ c, o.op ≠ .defer c := fun c hc => by rw [hop] at hc; cases hc
    have hrunop : ∀ w', (Builtin.clear_ #[t] o.type #[a.eval y]).run P w = .ok (.tuple #[]) w' → (execOp a.eval o).run P w = .ok (.value (.tuple #[])) w' := by
      intro w' hr
      simp only [execOp, hop, hc, arr1 hargs, arr1 htys, resolve, invoke, builtin, Sem.run_bind, Sem.run_pure, Result.andThen_ok, List.map_toArray, List.map_cons, List.map_nil, hr]
    simp only [ev1] at he
    split at he
    · rename_i id sz lo len hx
      rw [hx] at hxv
      split at he
      · rename_i ty xs hb
        split at he
        · rename_i z' hz'
          obtain ⟨hq, he2⟩ := cond_some he
          clear he
          simp only [Bool.and_eq_true, beq_iff_eq, std, decide_eq_true_eq] at hq
          obtain ⟨e0, hlo, hle⟩ := hq
          subst e0
          simp only [Option.some.injEq, Prod.mk.injEq] at he2
          obtain ⟨rfl, rfl⟩ := he2
          obtain ⟨ao, n, cap, hv, rfl, hcap, _, hadr⟩ := hxv
          have hT : R M (.tup []) (.tuple #[]) := R_tup.2 ⟨[], rfl, by rw [RL]⟩
          have hlen' : lo.toNat + n ≤ xs.length := by omega
          rcases Nat.eq_zero_or_pos n with hn | hn
          · subst hn
            have hsame : std.clr xs lo (0 : Nat) z' = xs := by simp [std]
            have hsame : std.clr xs lo ((0 : Nat) : Int) z' = xs := hsame
            rw [hsame] at hK
            refine wpIn_val hF hdef (hrunop w ?_) (hK _ M G w (Gstep.refl _ _) (h.putBox (h.boxes id _ hb)) hT)
            rw [hv]
            cases ao <;> simp [Builtin.clear_, run_underlying h2]
          · obtain ⟨b, hb1, rfl⟩ := hadr hn
            obtain ⟨hzR, hzs, hznt⟩ := zero_R (M := M) h5 h6
            have hzsz : z.cells.size = ty.csz := by
              have := (R_cells hzR hznt).1.length
              rw [dec_len hz'] at this
              simpa using this
            rcases Nat.eq_zero_or_pos ty.csz with hcz | hcz
            · -- elements without cells
              have hzl : (Builtin.zeroCells z.cells n).toList = [] := by
                apply List.eq_nil_of_length_eq_zero
                simp [Builtin.zeroCells, hzsz, hcz]
              have hbx : BoxOk M G w0.heap.size w id [.row ty (std.clr xs lo n z')] := by
                refine .inl ⟨rfl, ?_⟩
                show rowCs ty _ = []
                apply List.eq_nil_of_length_eq_zero
                rw [rowCs_len, hcz, Nat.mul_zero]
              refine wpIn_val hF hdef (hrunop w ?_) (hK _ M G w (Gstep.refl _ _) (h.putBox hbx) hT)
              rw [hv]
              have hn' : n ≠ 0 := by omega
              obtain ⟨m, rfl⟩ : ∃ m, n = m + 1 := ⟨n - 1, by omega⟩
              simp [Builtin.clear_, run_underlying h2, zeroValue, typeInfo, h3, h4, hzl, storeCells]
            · have hne : ¬ (isRow [D.row ty xs] = true ∧ expand [D.row ty xs] = []) := by
                rintro ⟨_, hz⟩
                have h7 := congrArg List.length (show rowCs ty xs = [] from hz)
                rw [rowCs_len] at h7
                rcases Nat.mul_eq_zero.1 h7 with h8 | h8 <;> omega
              obtain ⟨b', us, ty', k1, k2, k3, k4, k5, k6, k7⟩ := (h.boxes id _ hb).resolve_left hne
              have k5 : (rowCs ty xs).length ≤ us.length := k5
              rw [hb1] at k1
              cases k1
              have hzc : (Builtin.zeroCells z.cells n).toList = flat (List.replicate n z) := by
                have := flat_replicate (z := z) (sz := ty.csz) (n := n) hzsz (by omega)
                have e2 : Builtin.zeroCells z.cells n = (flat (List.replicate n z)).toArray := by
                  rw [this]; unfold Builtin.zeroCells; rw [hzsz]
                rw [e2]
              have hzR' : R M (ty.enc z') z := hzR.dec hz'
              have hrl : RL M ((List.replicate n z').map ty.enc) (List.replicate n z) := by
                refine RL.of_get (by simp) (fun i x u hx hu => ?_)
                rw [List.map_replicate, List.getElem?_replicate] at hx
                rw [List.getElem?_replicate] at hu
                split at hx
                · rename_i hi
                  rw [if_pos hi] at hu
                  cases hx; cases hu; exact hzR'
                · cases hx
              have hall : ∀ u ∈ List.replicate n z, u.cells.size = ty.csz ∧ ∀ c ∈ u.cells.toList, single c := fun u hu => by
                rw [(List.mem_replicate.1 hu).2]; exact ⟨hzsz, hzs⟩
              have hfl : (flat (List.replicate n z)).length = n * ty.csz := by
                rw [flat_length (sz := ty.csz) (fun u hu => (hall u hu).1), List.length_replicate]
              have ha2 : All2 (fun d u => RD M G d u ∧ single u) (rowCs ty (List.replicate n z')) (flat (List.replicate n z)) := by
                refine ⟨by rw [hfl, rowCs_len, List.length_replicate], fun j d u hd hu => ?_⟩
                obtain ⟨v, rfl, g1, g2⟩ := row_flat hrl hall j d u hd hu
                exact ⟨g1, g2⟩
              have hdl : (rowCs ty (List.replicate n z')).length = n * ty.csz := by rw [rowCs_len, List.length_replicate]
              have hbd : lo.toNat * ty.csz + n * ty.csz ≤ (rowCs ty xs).length := by
                rw [rowCs_len, ← Nat.add_mul]
                exact Nat.mul_le_mul_right _ hlen'
              have ha3 := Pre2.setRange (off := lo.toNat * ty.csz) ⟨k5, k6⟩ ha2 (by rw [hdl]; exact hbd)
              have hset : expand [D.row ty (std.clr xs lo n z')] = setRange (rowCs ty xs) (lo.toNat * ty.csz) (rowCs ty (List.replicate n z')) := by
                show rowCs ty (xs.take lo.toNat ++ (List.replicate (n : Int).toNat z' ++ xs.drop (lo.toNat + (n : Int).toNat))) = _
                rw [rowCs_append, rowCs_append, Int.toNat_natCast, rowCs_take (by omega), rowCs_drop hlen']
                unfold setRange
                rw [hdl, List.append_assoc, Nat.add_mul]
              rw [← hset, hdl] at ha3
              have hst := run_storeCells_at P b (lo.toNat * ty.csz) ty' (flat (List.replicate n z)) 0 us.toArray w k4 (by simp; omega) (fun v hv => by
                obtain ⟨u, hu1, hu2⟩ := List.mem_flatMap.1 hv
                exact ((hall u hu1).2 v hu2).2)
              simp only [Nat.add_zero, List.toList_toArray, hfl] at hst
              refine wpIn_val hF hdef (hrunop _ ?_) (hK _ M G _ (Gstep.refl _ _) (h.setBox hb1 k2 k3 k4 k7 (by simp; omega) ha3) hT)
              rw [hv]
              obtain ⟨m, rfl⟩ : ∃ m, n = m + 1 := ⟨n - 1, by omega⟩
              simp [Builtin.clear_, run_underlying h2, zeroValue, typeInfo, h3, h4, hzc, hst]
        · cases he
      · cases he
    · cases he
  | allb zero =>
    obtain ⟨inf, z, hop, hzl, h1, h2, h3⟩ := ok_allb hok
    simp only [ev1, Option.some.injEq, Prod.mk.injEq] at he
    obtain ⟨rfl, rfl⟩ := he
    obtain ⟨hz, hs⟩ := okVs_RL (M := M) h3
    obtain ⟨G', hSR, hRD, hlp, hmk⟩ := h.newBox (s.num dst + 1) (us := z.cells.toList) (cs := zero.map D.p) bldTy (fun _ => ⟨rfl, by rw [hz.length, hzl]⟩) (isRow_map_p zero) (by simp [hz.length]) (fun j d u hj hu => by
      rw [List.getElem?_map] at hj
      obtain ⟨x, hx, rfl⟩ := Option.map_eq_some_iff.1 hj
      obtain ⟨u', hu', hr⟩ := hz.get hx
      rw [hu] at hu'; cases hu'
      exact ⟨hr, hs u (List.mem_of_getElem? hu), rfl⟩)
    rw [Array.toArray_toList] at hSR
    refine wpIn_val hF (fun c hc => by rw [hop] at hc; cases hc) (v := .pointer (some ⟨w.heap.size, 0, none⟩)) (w' := w.alloc (.cells z.cells bldTy)) ?_ (hK _ M G' _ (Gstep.same hlp hmk) hSR hRD)
    simp [execOp, hop, Instr.alloc, zeroValue, typeInfo, h1, h2, newVar, newRow]
  | bcc f x =>
    obtain ⟨c, y, hop, hc, hargs, h1⟩ := ok_bcc hok
    simp only [ev1] at he
    split at he
    · rename_i id hx
      split at he
      · rename_i c0 c1 hb
        obtain ⟨hz, he2⟩ := cond_some he
        clear he
        simp only [Bool.and_eq_true, beq_iff_eq] at hz
        have hxv := opd h1 (h.reads _)
        rw [hx] at hxv
        obtain ⟨b, hbk, hxe⟩ := hxv
        obtain ⟨b', us, ty, k1, k2, k3, k4, k5, k6, k7⟩ := (h.boxes id _ hb).cells (by cases c0 <;> rfl)
        rw [hbk] at k1; cases k1
        obtain ⟨hty, hul⟩ := k7.2 hz.2
        subst hty
        obtain ⟨u0, u1, rfl⟩ : ∃ u0 u1, us = [u0, u1] := by
          match us, hul with
          | [u0, u1], _ => exact ⟨u0, u1, rfl⟩
        obtain ⟨q0, s0⟩ := k6 0 c0 u0 rfl rfl
        obtain ⟨q1, s1⟩ := k6 1 c1 u1 rfl rfl
        obtain ⟨hth, hcall⟩ := hcf.bccs f hz.1
        have hargs' : (c.args.toList.map a.eval ++ []).toArray = #[.pointer (some ⟨b, 0, none⟩)] := by rw [hargs]; simp [hxe]
        split at he2
        · simp only [Option.some.injEq, Prod.mk.injEq] at he2
          obtain ⟨rfl, rfl⟩ := he2
          have hu0 : u0 = .pointer none := q0
          subst hu0
          refine s_run hF hop hc (caps := []) rfl hth (Rr := fun v w' => SR M0 w0 M G (a.tmps :: ts) w' { s with boxes := put s.boxes id [.mptr id 0, c1] } ∧ RD M G (.p (.tup [])) v) ?_ (fun v w' ⟨k1, k2⟩ => hK v M G w' (Gstep.refl _ _) k1 k2)
          rw [hargs']
          refine ((hcall b u1 w).1 k4).mono ?_
          rintro e w' ⟨rfl, rfl⟩
          refine ⟨.tuple #[], rfl, ?_, ⟨[], rfl, by rw [RL]⟩⟩
          have hset : w.setCell ⟨b, 0, none⟩ (.pointer (some ⟨b, 0, none⟩)) = w.setRow b [.pointer (some ⟨b, 0, none⟩), u1].toArray := by
            have e1 := run_storeCells_cells (P := P) b 0 [.pointer (some ⟨b, 0, none⟩)] 0 w (fun j hj => by simp at hj; subst hj; simp [World.cell?, k4]) (fun j hj => by simp [World.frozen?, k4]) (by simp [Value.oneCell'])
            have e2 := run_storeCells_at P b 0 bldTy [.pointer (some ⟨b, 0, none⟩)] 0 _ w k4 (by simp) (by simp [Value.oneCell'])
            rw [e1] at e2
            injection e2
          rw [hset]
          exact h.setBox hbk k2 k3 k4 k7 rfl ⟨by simp [expand], fun j d u hd hu => by
            match j, hd, hu with
            | 0, hd, hu => simp [expand] at hd hu; subst hd; subst hu; exact ⟨⟨b, hbk, rfl⟩, rfl, rfl⟩
            | 1, hd, hu => simp [expand] at hd hu; subst hd; subst hu; exact ⟨q1, s1⟩⟩
        · rename_i id' 
          obtain ⟨hid, he3⟩ := cond_some he2
          have hid : id' = id := by simpa using hid
          subst hid
          simp only [Option.some.injEq, Prod.mk.injEq] at he3
          obtain ⟨rfl, rfl⟩ := he3
          obtain ⟨b2, hb2, hu0⟩ := q0
          rw [hbk] at hb2; cases hb2
          subst hu0
          refine s_run hF hop hc (caps := []) rfl hth (Rr := fun v w' => SR M0 w0 M G (a.tmps :: ts) w' s ∧ RD M G (.p (.tup [])) v) ?_ (fun v w' ⟨k1, k2⟩ => hK v M G w' (Gstep.refl _ _) k1 k2)
          rw [hargs']
          refine ((hcall b u1 w).2 k4).mono ?_
          rintro e w' ⟨rfl, rfl⟩
          exact ⟨.tuple #[], rfl, h, ⟨[], rfl, by rw [RL]⟩⟩
        · cases he2
      · cases he
    · cases he
  | apps x y =>
    obtain ⟨c, t, t', x', y', i, hop, hc, hargs, htys, h1, h2, h3, h4, h5, h6, h7, h8⟩ := ok_apps hok
    simp only [ev1] at he
    split at he
    · rename_i bs hy
      have hyv := opd h2 (h.reads _)
      rw [hy] at hyv
      have hyv : a.eval y' = .string bs := hyv
      have hrunop : ∀ v' w', (Builtin.append_ #[t, t'] o.type #[a.eval x', a.eval y']).run P w = .ok v' w' → (execOp a.eval o).run P w = .ok (.value v') w' := by
        intro v' w' hr
        have hargs' : c.args = #[x', y'] := by apply Array.ext'; rw [hargs]
        have htys' : c.argTypes = #[t, t'] := by apply Array.ext'; rw [htys]
        simp only [execOp, hop, hc, hargs', htys', resolve, invoke, builtin, Sem.run_bind, Sem.run_pure, Result.andThen_ok, List.map_toArray, List.map_cons, List.map_nil, hr]
      split at he
      · rename_i id ver xs hx
        split at he
        · rename_i v hv
          obtain ⟨hcnd, he2⟩ := cond_some he
          clear he
          simp only [Bool.and_eq_true, beq_iff_eq] at hcnd
          obtain ⟨rfl, hfit⟩ := hcnd
          simp only [Option.some.injEq, Prod.mk.injEq] at he2
          obtain ⟨rfl, rfl⟩ := he2
          have hxv := opd h1 (h.reads _)
          rw [hx] at hxv
          obtain ⟨row, k1, k2, k3⟩ := h.rows id v hv
          obtain ⟨hsv, hxs⟩ := (hxv.2 row k1).2 k2
          rw [← hsv] at k3
          have hcells : flat (Go.byteCells bs) = Go.byteCells bs := by
            unfold flat Go.byteCells
            induction bs.data.toList with
            | nil => rfl
            | cons b r ih => simpa [Value.cells] using ih
          have hyR : RL M ((std.sby bs).map (Ty.int .u8).enc) (Go.byteCells bs) := by
            show RL M ((bs.data.toList.map fun b => (b.toNat : Int)).map (Ty.int .u8).enc) (bs.data.toList.map fun b => Value.int .u8 b.toNat)
            induction bs.data.toList with
            | nil => show RL M [] []; rw [RL]
            | cons b r ih => show RL M (_ :: _) (_ :: _); rw [RL]; exact ⟨_, _, rfl, rfl, ih⟩
          have hlen : ((std.sby bs).map (Ty.int .u8).enc).length = bs.size := by
            refine (List.length_map (as := (std.sby bs : List (Ty.int .u8).D)) _).trans ?_
            exact sby_len bs
          have hsrc : Src P 1 t' (a.eval y') ((std.sby bs).map (Ty.int .u8).enc).length (flat (Go.byteCells bs)) w := by
            rw [hyv, hlen, hcells]
            exact Src.ofString w h4 bs
          have h81 : (Value.int .u8 0).cells.size = 1 := rfl
          obtain ⟨v', M', w', vs, sz'', hrun, hrv, hrow', hsub, hrfs, hok', hbel, hM, hH, hO⟩ := app_core' (ty := o.type) (kk := kOf id) (fun q hq => by
            simp only [kOf] at hq
            cases hid : id % 2 == 1 with
            | true => rw [hid] at hq; cases hq; rfl
            | false => rw [hid] at hq; cases hq) h.ext.ok h.old h3 (.inl h4) h5 h6 h7 (by omega) (by omega) h8 h81 k3 hxs (sizedL_enc rfl _) hyR (fun u hu => by
              obtain ⟨b, _, rfl⟩ := List.mem_map.1 hu; rfl) (fun u hu => by
              rw [hcells] at hu
              obtain ⟨b, _, rfl⟩ := List.mem_map.1 hu; exact ⟨rfl, rfl⟩) hsrc (fits_enc hfit)
          let row' : Row := ⟨v + 1, v', row.us ++ vs, sz''⟩
          let G' : Gh := { G with rows := fun j => if j = id then some row' else G.rows j, owner := fun b => if b = w.heap.size then some (false, id) else G.owner b }
          have hr2 : RL M' ((std.app (α := (Ty.int .u8).D) xs (std.sby bs)).map (Ty.int .u8).enc) (row.us ++ vs) := by
            have happ : (std.app (α := (Ty.int .u8).D) xs (std.sby bs)).map (Ty.int .u8).enc = List.map (Ty.int .u8).enc xs ++ List.map (Ty.int .u8).enc (std.sby bs) := List.map_append (f := (Ty.int .u8).enc) (l₁ := xs) (l₂ := std.sby bs)
            rw [happ]
            exact (RL.sub hsub _ _ hxs).append (RL.sub hsub _ _ hrv)
          have hext : ExtS M0 w0 M' w' := ExtS.make h.ext.tab (fun ad ha => (hM ad (Nat.lt_of_lt_of_le ha h.old) (by omega)).trans (h.ext.same ad ha)) hok'.cell hok'.old (h.ext.below.trans hbel) (fun a i x e => hsub.ref a i x (h.ext.refs a i x e)) hok'.oldR
          have bump : ∀ (d : D) (u : Value), RD M G d u → RD M' G' d u := fun d u hd => rd_bump hd hsub k1 (fun _ => rfl) (if_pos rfl) (fun j hj => if_neg hj) rfl (by show v + 1 = row.ver + 1; rw [k2])
          have keep : ∀ b, b < w.heap.size → ¬ G.owner b = some (false, id) → w'.heap[b]? = w.heap[b]? ∧ G'.owner b = G.owner b ∧ ∀ ad : Addr, ad.block = b → M' ad = M ad := fun b hb ho =>
            ⟨hH b hb (fun q => ho q.1), if_neg (by omega), fun ad ha => hM ad (by omega) (fun q => ho (by rw [← ha]; exact q.1))⟩
          obtain ⟨st1, st2⟩ := h.still hO
          refine wpIn_val hF (fun c hc => by rw [hop] at hc; cases hc) (hrunop v' w' hrun) (hK v' M' G' w' (Gstep.same rfl rfl) ⟨hext, h.frames.imp bump, fun j cs hj => ?_, fun j u hj => ?_, st1, h.recs, h.inj, marks_mono st2 hsub hrfs⟩ ⟨hrow'.R hr2, fun r hr => ?_⟩)
          · exact (h.boxes j cs hj).upd' hsub rfl (fun b ho hlt _ => keep b hlt (by rw [ho]; simp)) (fun d u hu => bump _ _ hu)
          · by_cases ej : j = id
            · subst ej
              simp only [get_put_same, Option.some.injEq] at hj
              subst hj
              exact ⟨row', if_pos rfl, rfl, hrow'.upd (Sub.refl _) (fun b ho hlt => ⟨rfl, by
                by_cases hbs : b = w.heap.size
                · exact if_pos hbs
                · rcases ho with ho | ho
                  · exact (if_neg hbs).trans ho
                  · exact absurd ho hbs, fun _ _ => rfl⟩)⟩
            · rw [get_put_ne _ _ ej] at hj
              obtain ⟨r, q1, q2, q3⟩ := h.rows j u hj
              refine ⟨r, (if_neg ej).trans q1, q2, q3.upd hsub (fun b ho hlt => ?_)⟩
              obtain ⟨p1, p2, p3⟩ := keep b hlt (by rw [ho]; simp; exact ej)
              exact ⟨p1, p2.trans ho, p3⟩
          · have : some row' = some r := (if_pos (c := id = id) rfl).symm.trans hr
            cases this
            exact ⟨Nat.le_refl _, fun _ => ⟨rfl, hr2⟩⟩
        · cases he
      · cases he
    · cases he
  | bstr f x =>
    obtain ⟨c, y, hop, hc, hargs, h1⟩ := ok_bstr hok
    simp only [ev1] at he
    split at he
    · rename_i id hx
      split at he
      · rename_i c0 rid ver xs hb
        split at he
        · rename_i v hv
          obtain ⟨hz, he2⟩ := cond_some he
          clear he
          rw [Bool.and_eq_true, Bool.and_eq_true (std.fits 1 xs [])] at hz
          obtain ⟨hz, hfit, hbys⟩ := hz
          simp only [Bool.and_eq_true, beq_iff_eq] at hz
          obtain ⟨⟨hf, hodd⟩, hrodd, rfl⟩ := hz
          simp only [Option.some.injEq, Prod.mk.injEq] at he2
          obtain ⟨rfl, rfl⟩ := he2
          have hxv := opd h1 (h.reads _)
          rw [hx] at hxv
          obtain ⟨b, hbk, hxe⟩ := hxv
          obtain ⟨b', us, ty, k1, k2, k3, k4, k5, k6, k7⟩ := (h.boxes id _ hb).cells (by cases c0 <;> rfl)
          rw [hbk] at k1; cases k1
          obtain ⟨hty, hul⟩ := k7.2 hodd
          subst hty
          obtain ⟨u0, u1, rfl⟩ : ∃ u0 u1, us = [u0, u1] := by
            match us, hul with
            | [u0, u1], _ => exact ⟨u0, u1, rfl⟩
          obtain ⟨q1, s1⟩ := k6 1 _ u1 rfl rfl
          obtain ⟨row, r1, r2, r3⟩ := h.rows rid v hv
          obtain ⟨hsv, hxs⟩ := (q1.2 row r1).2 r2
          rw [← hsv] at r3
          have hk : kOf rid = some byTy := by simp [kOf, hrodd]
          rw [hk] at r3
          obtain ⟨hth, hcall⟩ := hcf.bstrs f hf
          have hargs' : (c.args.toList.map a.eval ++ []).toArray = #[.pointer (some ⟨b, 0, none⟩)] := by rw [hargs]; simp [hxe]
          have hlx : row.us.length = xs.length := by rw [hxs.length]; exact List.length_map _
          have hlen : xs.length ≤ 140737488355328 := by simpa [std] using hfit
          obtain ⟨ao, cap, hu1, hor⟩ := r3
          rcases hor with ⟨_, hor⟩ | ⟨hne, g, cur, t, hao, hg1, hg2, hg3, hg4, hg5, hg6, hg7, hg8, hg9⟩
          · exfalso
            rcases hor with hor | ⟨_, _, _, _, q⟩
            · rw [hor] at hlx
              exact (bys_spec hbys).1 (List.eq_nil_of_length_eq_zero hlx.symm)
            · cases q
          have ht := hg9 _ rfl
          subst ht
          subst hao
          -- the bytes
          have hsz : row.sz = 1 := (hg7.size_eq hxs (sizedL_enc (t := .int .u8) rfl xs) (fun q => (bys_spec hbys).1 (List.map_eq_nil_iff.1 q)))
          obtain ⟨l, hl, hl0, hll, hcell⟩ := bytes_of h.ext.ok.toKnown hbys hxs hg7 hg6
          rw [hu1, ← hll] at k4
          have hlap : l.length ≤ cap := by rw [hll]; exact hg4
          have hcap : cur.size = cap := by rw [hg5, hsz, Nat.mul_one]
          have hone : SR M0 w0 M G (a.tmps :: ts) w (s.kill id) := h.fresh id (Sub.refl M) rfl h.ext (fun _ _ => ⟨rfl, rfl⟩) rfl rfl (fun _ _ => ⟨rfl, rfl, fun _ _ => rfl⟩)
          refine s_run hF hop hc (caps := []) rfl hth (Rr := fun v w' => SR M0 w0 M G (a.tmps :: ts) w' ((s.kill id).kill rid) ∧ RD M G (.p (.str (std.yb xs))) v) ?_ (fun v w' ⟨k1, k2⟩ => hK v M G w' (Gstep.refl _ _) k1 k2)
          rw [hargs']
          refine (hcall b g cap u0 cur l w hl0 (by rw [hll, hlx]; exact hlen) k4 hg3 hlap hcap hcell).mono ?_
          rintro e w' ⟨rfl, hbel, hoth, fz, hgz⟩
          refine ⟨_, rfl, hone.freshRow rid (ExtS.make h.ext.tab h.ext.same (fun ad q hq => ?_) (fun ad q hq => Nat.lt_of_lt_of_le (h.ext.ok.old ad q hq) hbel.size) (h.ext.below.trans ⟨hbel.os, hbel.tape, hbel.output, hbel.size, fun k hk => hoth k (by omega)⟩) h.ext.refs (fun a k b c e => Nat.lt_of_lt_of_le (h.ext.ok.oldR a k b c e) hbel.size)) (fun k _ hk => hoth k (fun q => hk (by rw [q]; exact hg2))) (fun k o hk hn => (hoth k (fun q => by rw [q, hg3] at hk; cases hk; exact hn _ _ _ rfl)).trans hk), ?_⟩
          · have hc := h.ext.ok.cell ad q hq
            by_cases hb : ad.block = g
            · unfold World.cell? at hc ⊢
              rw [hb, hgz]
              rw [hb, hg3] at hc
              exact hc
            · unfold World.cell? at hc ⊢
              rw [hoth _ hb]; exact hc
          · show _ = Value.string (std.yb xs)
            rw [hl]
        · cases he
      · cases he
    · cases he
  | mkm ar =>
    obtain ⟨t, hop⟩ := ok_mkm hok
    simp only [ev1] at he
    split at he
    · rename_i tk tv xs ha
      simp only [Option.some.injEq, Prod.mk.injEq] at he
      obtain ⟨rfl, rfl⟩ := he
      refine wpIn_val hF (fun c hc => by rw [hop] at hc; cases hc) (v := .map (some w.heap.size)) (w' := w.alloc (.map #[] 0)) ?_ (hK _ _ G _ (Gstep.refl _ _) (h.newMap ha) (.inr ⟨w.heap.size, 0, if_pos ⟨rfl, rfl⟩, rfl⟩))
      simp [execOp, hop, RowKit.run_makeMap]
    · cases he
  | mset tk tv x k v =>
    obtain ⟨t, kt, et, x', k', v', hop, h1, h2, h3, ht, hkey⟩ := ok_mset hok
    simp only [ev1] at he
    split at he
    · rename_i ar i q1 q2 kv vv hx hk hv
      split at he
      · rename_i tk' tv' xs ha
        obtain ⟨hc, he2⟩ := cond_some he
        clear he
        simp only [Bool.and_eq_true] at hc
        obtain ⟨_, hsk, hsv⟩ := hc
        have e1 := Ty.same_eq hsk
        have e2 := Ty.same_eq hsv
        subst e1 e2
        split at he2
        · rename_i kd vd hkd hvd
          split at he2
          · rename_i es hes
            simp only [Option.some.injEq, Prod.mk.injEq] at he2
            obtain ⟨rfl, rfl⟩ := he2
            have hxv := opd h1 (h.reads _)
            rw [hx] at hxv
            have hxv : RRef M (.mp ar) i q1 q2 (a.eval x') := hxv
            have hkv := (R_enc _ _ _).1 (by have := (opd h2 (h.reads _)).toV hk |>.norm; rw [dec_norm _ _ _ hkd] at this; exact this)
            have hvv := (R_enc _ _ _).1 (by have := (opd h3 (h.reads _)).toV hv |>.norm; rw [dec_norm _ _ _ hvd] at this; exact this)
            obtain ⟨j, b, c, ents, clock, rfl, m1, m2, m3, m4, m5, m6⟩ := h.mapAt ha hes hxv
            obtain ⟨ents', clock', r1, r2⟩ := set_run (P := P) ht hkey m5 m6 hkv hvv
            refine wpIn_unit hF (fun c hc => by rw [hop] at hc; cases hc) (w' := { w with heap := w.heap.setIfInBounds b (.map ents' clock') }) ?_ (hK _ M G _ (Gstep.refl _ _) (h.setMap ha m3 m4 m5 r2) trivial)
            simp [execOp, hop, m2, r1]
          · cases he2
        · cases he2
      · cases he
    · cases he
  | mget tk tv zero ok x k =>
    obtain ⟨t, kt, et, x', k', inf, z, hop, h1, h2, ht, hkey, hi, hz, hz1, hz2⟩ := ok_mget hok
    simp only [ev1] at he
    split at he
    · rename_i ar i q1 q2 kv hx hk
      split at he
      · rename_i tk' tv' xs ha
        obtain ⟨hc, he2⟩ := cond_some he
        clear he
        simp only [Bool.and_eq_true] at hc
        obtain ⟨_, hsk, hsv⟩ := hc
        have e1 := Ty.same_eq hsk
        have e2 := Ty.same_eq hsv
        subst e1 e2
        split at he2
        · rename_i kd zd hkd hzd
          split at he2
          · rename_i es hes
            simp only [Option.some.injEq, Prod.mk.injEq] at he2
            obtain ⟨rfl, rfl⟩ := he2
            have hxv := opd h1 (h.reads _)
            rw [hx] at hxv
            have hxv : RRef M (.mp ar) i q1 q2 (a.eval x') := hxv
            have hkv := (R_enc _ _ _).1 (by have := (opd h2 (h.reads _)).toV hk |>.norm; rw [dec_norm _ _ _ hkd] at this; exact this)
            have hzv := (R_enc _ _ _).1 (by have := (zero_R (M := M) hz1 hz2).1 |>.norm; rw [dec_norm _ _ _ hzd] at this; exact this)
            obtain ⟨j, b, c, ents, clock, rfl, m1, m2, m3, m4, m5, m6⟩ := h.mapAt ha hes hxv
            have hzr : (zeroValue et).run P w = .ok z w := by simp [zeroValue, typeInfo, hi, hz]
            obtain ⟨y, r1, r2⟩ := get_run (P := P) ht hkey m5 m6 hkv hzr hzv ok
            refine wpIn_val hF (fun c hc => by rw [hop] at hc; cases hc) (v := bif ok then .tuple #[y, .bool (findEnt tk.keq kd es).isSome] else y) (w' := w) ?_ (hK _ M G _ (Gstep.refl _ _) h ?_)
            · simp [execOp, hop, m2, r1]
            · cases ok with
              | false => exact (R_enc _ _ _).2 r2
              | true => exact R_tup.2 ⟨[y, .bool (findEnt tk.keq kd es).isSome], rfl, RL_cons.2 ⟨_, _, rfl, (R_enc _ _ _).2 r2, RL_cons.2 ⟨_, _, rfl, rfl, RL_nil.2 rfl⟩⟩⟩
          · cases he2
        · cases he2
      · cases he
    · cases he
  | _ => exact rest he
end

end Go.Evl
