/-
  BoundLeast: at contents that fit the program's function answers true.
  Conditions: none.
-/
import Derived.Test.YtbcihiehcekheaaGreatDoorRelSnd
import Derived.Test.YtbcihiehcekheaaGreatDoorLaw14
namespace Go.Proofs.YtbcihiehcekheaaGreatDoor.boundLeast
open Go Go.Evl
/-- The kinds of the parameters. -/
def kinds : Tys := Tys.of [kd6, kd7, kd0, (.sl (.sl (.int .i64))), (.sl (.int .i64))]
theorem sound (d : kinds.D) (hd : kinds.Fit d) : Sound Tryz.prog 4 (kinds.enc d) (.bool true) := by
  obtain ⟨h0, h1, h2, ⟨h3, h3'⟩, ⟨h4, h4'⟩, _⟩ := hd
  have h := Sh.BoundLeast_true (n := d.1) (s := d.2.1) (f := d.2.2.1) (l := d.2.2.2.1) (r := d.2.2.2.2.1) (netFit_of h0) (flowFit_of h2).2.2.2.1 (len_of h3) (len_of h4)
  exact callK_sound mixed lib_ok tab_ok (tok75 Sh.K) ((chk4 Sh.K d.1 d.2.1 d.2.2.1 d.2.2.2.1 d.2.2.2.2.1).symm.trans h)
end Go.Proofs.YtbcihiehcekheaaGreatDoor.boundLeast
