/-
  BoundNeeds: at contents that fit the program's function answers true.
  Conditions: none.
-/
import Derived.Test.YtbcihiehcekheaaDoorRelChk
import Derived.Test.YtbcihiehcekheaaDoorLaw17
import Derived.Test.YtbcihiehcekheaaDoorCtr
namespace Go.Evl
open Go
theorem in64_of {n : Int} (h : (Lit.int .i64 n).wf = true) : Sh.In64 n := by
  simp only [Lit.wf, IntKind.min, IntKind.max, IntKind.signed, IntKind.bits, Bool.and_eq_true, decide_eq_true_eq, if_true] at h
  unfold Sh.In64
  omega
theorem len_of {α : Type} {xs : List α} (h : xs.length ≤ maxLen) : Sh.Len xs := by
  unfold maxLen at h
  unfold Sh.Len
  omega
theorem netFit_of {n : Sh.Network} (h : kd3.Fit n) : Sh.NetFit n := by
  obtain ⟨h0, ⟨h1, h1'⟩, h2, h3, ⟨h4, h4'⟩, ⟨h5, h5'⟩, _⟩ := h
  refine ⟨in64_of h0, len_of h1, fun r hr => ?_, fun r hr p hp => ?_, in64_of h2, in64_of h3, len_of h4, fun l hl => ?_, len_of h5, fun m hm => ?_⟩
  · obtain ⟨i, hi⟩ := List.mem_iff_getElem?.1 hr
    exact len_of (h1' i r hi).1
  · obtain ⟨i, hi⟩ := List.mem_iff_getElem?.1 hr
    obtain ⟨j, hj⟩ := List.mem_iff_getElem?.1 hp
    exact in64_of ((h1' i r hi).2 j p hj)
  · obtain ⟨i, hi⟩ := List.mem_iff_getElem?.1 hl
    obtain ⟨q1, q2, q3, _⟩ := h4' i l hi
    exact ⟨in64_of q1, in64_of q2, in64_of q3⟩
  · obtain ⟨i, hi⟩ := List.mem_iff_getElem?.1 hm
    exact in64_of (h5' i m hi)
theorem flowFit_of {f : Sh.Flow} (h : kd2.Fit f) : Sh.In64 f.1 ∧ Sh.In64 f.2.1 ∧ Sh.In64 f.2.2.1 ∧ Sh.In64 f.2.2.2.1 ∧ Sh.In64 f.2.2.2.2.1 ∧ Sh.In64 f.2.2.2.2.2.1 := by
  obtain ⟨h0, h1, h2, h3, h4, h5, _⟩ := h
  exact ⟨in64_of h0, in64_of h1, in64_of h2, in64_of h3, in64_of h4, in64_of h5⟩
end Go.Evl
namespace Go.Proofs.YtbcihiehcekheaaDoor.boundNeeds
open Go Go.Evl
/-- The kinds of the parameters. -/
def kinds : Tys := Tys.of [kd3, kd4, kd2, (.sl (.sl (.int .i64)))]
theorem sound (d : kinds.D) (hd : kinds.Fit d) : Sound Tryd.prog 3 (kinds.enc d) (.bool true) := by
  obtain ⟨h0, h1, h2, ⟨h3, h3'⟩, _⟩ := hd
  have h := Sh.BoundNeeds_true (n := d.1) (s := d.2.1) (f := d.2.2.1) (l := d.2.2.2.1) (netFit_of h0) (flowFit_of h2).2.2.2.1 (len_of h3) (fun r hr => by
    obtain ⟨i, hi⟩ := List.mem_iff_getElem?.1 hr
    exact len_of (h3' i r hi).1)
  exact callK_sound mixed lib_ok tab_ok (tok46 Sh.K) ((chk3 Sh.K d.1 d.2.1 d.2.2.1 d.2.2.2.1).symm.trans h)
end Go.Proofs.YtbcihiehcekheaaDoor.boundNeeds
