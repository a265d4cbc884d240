/-
  The check of a route of a flow in a schedule: the same error on both sides.
  Conditions: none.
-/
import Derived.Test.YtbcihiehcekheaaDoorLaw7
namespace Go.Evl.Sh
open Go Go.Evl
set_option linter.unusedVariables false
set_option linter.unusedSimpArgs false

/-- A route of a flow in a schedule, as the program holds it. -/
def mkWay (n : Network) (s : Schedule) (f : Flow) (r : List Int) (more : Int) : Way :=
  (n.1, n.2.1, n.2.2.1, n.2.2.2.1, n.2.2.2.2.1, n.2.2.2.2.2.1, s.1, s.2.1, s.2.2.1, f.1, f.2.1, f.2.2.1, f.2.2.2.1, f.2.2.2.2.1, f.2.2.2.2.2.1, r, more, ())
/-- Everything has its form. -/
structure AllOk (n : Network) (s : Schedule) (f : Flow) (r : List Int) : Prop where
  net : NetOk n
  sch : SchOk s
  flow : FlowOk n.1 f
  div : Int.tmod s.1 f.2.2.2.1 = 0
  route : RouteOk n f.2.1 f.2.2.1 r
theorem check_eq {k : Nat} (hk : Fuel k) {n : Network} (hf : NetFit n) {s : Schedule} {f : Flow} (hp : In64 f.2.2.2.1) {r : List Int} (hr : Len r) (more : Int) :
    ∃ e, bound_way_check k (mkWay n s f r more) = some e ∧ ref37_Fault k n s f r = some e ∧ (e = 0 → AllOk n s f r) := by
  unfold bound_way_check ref37_Fault
  obtain ⟨e, e1, e2⟩ := network_Check_eq hk hf
  obtain ⟨u, u1, u2⟩ := ref31_Check_eq hk hf
  have e1' : network_Check k ((mkWay n s f r more).1, (mkWay n s f r more).2.1, (mkWay n s f r more).2.2.1, (mkWay n s f r more).2.2.2.1, (mkWay n s f r more).2.2.2.2.1, (mkWay n s f r more).2.2.2.2.2.1, ()) = some e := e1
  rw [e1', u1]
  simp only [obind_some, tst_not, tst_beq]
  by_cases hn : NetOk n
  rotate_left
  · rw [if_neg (fun q => hn (e2.1 q)), if_neg (fun q => hn (u2.1 q))]
    exact ⟨1, rfl, rfl, by simp⟩
  rw [if_pos (e2.2 hn), if_pos (u2.2 hn)]
  obtain ⟨t, p, p1, p2⟩ := Print_eq hk s
  obtain ⟨b, b1, b2⟩ := ref35_Formed_eq hk s
  have p1' : schedule_Print k ((mkWay n s f r more).2.2.2.2.2.2.1, (mkWay n s f r more).2.2.2.2.2.2.2.1, (mkWay n s f r more).2.2.2.2.2.2.2.2.1, ()) = some (t, p, ()) := p1
  rw [p1', b1]
  simp only [obind_some]
  by_cases hs : SchOk s
  rotate_left
  · have : b = false := by cases b; rfl; exact absurd (b2.1 rfl) hs
    subst this
    rw [if_neg (fun q => hs (p2.1 q)), tst_false]
    exact ⟨1, rfl, rfl, by simp⟩
  rw [if_pos (p2.2 hs), b2.2 hs, tst_true]
  obtain ⟨i, v, v1, v2⟩ := flow_Check_one hk hn.nodes f
  obtain ⟨w, w1, w2⟩ := ref32_Fault_eq k hn.nodes hp
  have v1' : flow_Check k (mkWay n s f r more).1 [((mkWay n s f r more).2.2.2.2.2.2.2.2.2.1, (mkWay n s f r more).2.2.2.2.2.2.2.2.2.2.1, (mkWay n s f r more).2.2.2.2.2.2.2.2.2.2.2.1, (mkWay n s f r more).2.2.2.2.2.2.2.2.2.2.2.2.1, (mkWay n s f r more).2.2.2.2.2.2.2.2.2.2.2.2.2.1, (mkWay n s f r more).2.2.2.2.2.2.2.2.2.2.2.2.2.2.1, ())] = some (i, v, ()) := v1
  rw [v1', w1]
  simp only [obind_some]
  by_cases hfl : FlowOk n.1 f
  rotate_left
  · rw [if_neg (fun q => hfl (v2.1 q)), if_neg (fun q => hfl (w2.1 q))]
    exact ⟨1, rfl, rfl, by simp⟩
  rw [if_pos (v2.2 hfl), if_pos (w2.2 hfl)]
  have hz : (f.2.2.2.1 != 0) = true := by have := hfl.period.1; simp; omega
  have hz' : ((mkWay n s f r more).2.2.2.2.2.2.2.2.2.2.2.2.1 != 0) = true := hz
  rw [hz', hz, tst_true, tst_true]
  by_cases hd : Int.tmod s.1 f.2.2.2.1 = 0
  rotate_left
  · have hd' : ¬ Int.tmod (mkWay n s f r more).2.2.2.2.2.2.1 (mkWay n s f r more).2.2.2.2.2.2.2.2.2.2.2.2.1 = 0 := hd
    rw [if_neg hd', if_neg hd]
    exact ⟨11, rfl, rfl, by simp⟩
  have hd' : Int.tmod (mkWay n s f r more).2.2.2.2.2.2.1 (mkWay n s f r more).2.2.2.2.2.2.2.2.2.2.2.2.1 = 0 := hd
  rw [if_pos hd', if_pos hd]
  obtain ⟨c, c1, c2, c3⟩ := route_Check_eq hk hf f.2.1 f.2.2.1 hr
  have c1' : route_Check k ((mkWay n s f r more).1, (mkWay n s f r more).2.1, (mkWay n s f r more).2.2.1, (mkWay n s f r more).2.2.2.1, (mkWay n s f r more).2.2.2.2.1, (mkWay n s f r more).2.2.2.2.2.1, ()) (mkWay n s f r more).2.2.2.2.2.2.2.2.2.2.1 (mkWay n s f r more).2.2.2.2.2.2.2.2.2.2.2.1 (mkWay n s f r more).2.2.2.2.2.2.2.2.2.2.2.2.2.2.2.1 = some c := c1
  rw [c1', c2]
  exact ⟨c, rfl, rfl, fun q => ⟨hn, hs, hfl, hd, (c3 q).2⟩⟩
end Go.Evl.Sh
