/-
  The functions of the program are what was printed, and the program answers what they answer.
  Conditions: none.
-/
import Derived.Test.YtbcihiehcekheaaDoorRelCodes
import Derived.Test.YtbcihiehcekheaaDoorRelSh
import Derived.Test.YtbcihiehcekheaaDoorRelExt
import Derived.KernelRfl
namespace Go.Evl
open Go Go.Proofs
set_option linter.unusedVariables false
def T0 (_ : Nat) : Tab := []
theorem tok0 (k : Nat) : TabOk Tryd.prog (T0 k) := fun _ _ h => by cases h
theorem TabOk.cons {P : Program} {T : Tab} {g : FuncId} {F : TF} (h : TabOk P T) (hF : ∀ a d, F.fn a = some d → Sound P g (F.args.enc a) (F.res.enc d)) : TabOk P ((g, F) :: T) := fun f F' hm a d hd => by
  rcases List.mem_cons.1 hm with e | hm
  · cases e
    exact hF a d hd
  · exact h f F' hm a d hd
theorem mixed : Tryd.prog.follows .mixedOrders = true := by kernel_rfl
theorem chk70 (k : Nat) (x0 : Ty.D (.int .i64)) : Sh.network_checkPower_2 k x0 = callK tab (T0 k) std k 20 70 (Tys.of [(.int .i64)]) (.bool) (x0, ()) := by kernel_rfl
def T1 (k : Nat) : Tab := (70, ⟨Tys.of [(.int .i64)], .bool, fun a => Sh.network_checkPower_2 k a.1⟩) :: T0 k
theorem tok1 (k : Nat) : TabOk Tryd.prog (T1 k) := (tok0 k).cons fun a d h => callK_sound mixed lib_ok tab_ok (tok0 k) ((chk70 k a.1).symm.trans h)
theorem chk45 (k : Nat) (x0 : Ty.D kd3) : Sh.network_checkPower k x0 = callK tab (T1 k) std k 20 45 (Tys.of [kd3]) ((.int .i64)) (x0, ()) := by kernel_rfl
def T2 (k : Nat) : Tab := (45, ⟨Tys.of [kd3], (.int .i64), fun a => Sh.network_checkPower k a.1⟩) :: T1 k
theorem tok2 (k : Nat) : TabOk Tryd.prog (T2 k) := (tok1 k).cons fun a d h => callK_sound mixed lib_ok tab_ok (tok1 k) ((chk45 k a.1).symm.trans h)
theorem chk74 (k : Nat) (x0 : Ty.D (.sl (.int .i64))) : Sh.cmp_Or_int k x0 = callK tab (T2 k) std k 20 74 (Tys.of [(.sl (.int .i64))]) ((.int .i64)) (x0, ()) := by kernel_rfl
def T3 (k : Nat) : Tab := (74, ⟨Tys.of [(.sl (.int .i64))], (.int .i64), fun a => Sh.cmp_Or_int k a.1⟩) :: T2 k
theorem tok3 (k : Nat) : TabOk Tryd.prog (T3 k) := (tok2 k).cons fun a d h => callK_sound mixed lib_ok tab_ok (tok2 k) ((chk74 k a.1).symm.trans h)
theorem chk87 (k : Nat) (x0 : Ty.D (.int .i64)) : Sh.cmp_isNaN_int k x0 = callK tab (T3 k) std k 20 87 (Tys.of [(.int .i64)]) (.bool) (x0, ()) := by kernel_rfl
def T4 (k : Nat) : Tab := (87, ⟨Tys.of [(.int .i64)], .bool, fun a => Sh.cmp_isNaN_int k a.1⟩) :: T3 k
theorem tok4 (k : Nat) : TabOk Tryd.prog (T4 k) := (tok3 k).cons fun a d h => callK_sound mixed lib_ok tab_ok (tok3 k) ((chk87 k a.1).symm.trans h)
theorem chk75 (k : Nat) (x0 : Ty.D (.int .i64)) (x1 : Ty.D (.int .i64)) : Sh.cmp_Compare_int k x0 x1 = callK tab (T4 k) std k 20 75 (Tys.of [(.int .i64), (.int .i64)]) ((.int .i64)) (x0, (x1, ())) := by kernel_rfl
def T5 (k : Nat) : Tab := (75, ⟨Tys.of [(.int .i64), (.int .i64)], (.int .i64), fun a => Sh.cmp_Compare_int k a.1 a.2.1⟩) :: T4 k
theorem tok5 (k : Nat) : TabOk Tryd.prog (T5 k) := (tok4 k).cons fun a d h => callK_sound mixed lib_ok tab_ok (tok4 k) ((chk75 k a.1 a.2.1).symm.trans h)
theorem chk48 (k : Nat) (x0 : Ty.D kd1) (x1 : Ty.D kd1) : Sh.network_compare k x0 x1 = callK tab (T5 k) std k 20 48 (Tys.of [kd1, kd1]) ((.int .i64)) (x0, (x1, ())) := by kernel_rfl
def T6 (k : Nat) : Tab := (48, ⟨Tys.of [kd1, kd1], (.int .i64), fun a => Sh.network_compare k a.1 a.2.1⟩) :: T5 k
theorem tok6 (k : Nat) : TabOk Tryd.prog (T6 k) := (tok5 k).cons fun a d h => callK_sound mixed lib_ok tab_ok (tok5 k) ((chk48 k a.1 a.2.1).symm.trans h)
theorem chk46 (k : Nat) (x0 : Ty.D kd3) (x1 : Ty.D (.int .i64)) : Sh.network_checkLink k x0 x1 = callK tab (T6 k) std k 20 46 (Tys.of [kd3, (.int .i64)]) ((.int .i64)) (x0, (x1, ())) := by kernel_rfl
def T7 (k : Nat) : Tab := (46, ⟨Tys.of [kd3, (.int .i64)], (.int .i64), fun a => Sh.network_checkLink k a.1 a.2.1⟩) :: T6 k
theorem tok7 (k : Nat) : TabOk Tryd.prog (T7 k) := (tok6 k).cons fun a d h => callK_sound mixed lib_ok tab_ok (tok6 k) ((chk46 k a.1 a.2.1).symm.trans h)
theorem chk30 (k : Nat) (x0 : Ty.D kd3) : Sh.network_Check k x0 = callK tab (T7 k) std k 20 30 (Tys.of [kd3]) ((.int .i64)) (x0, ()) := by kernel_rfl
def T8 (k : Nat) : Tab := (30, ⟨Tys.of [kd3], (.int .i64), fun a => Sh.network_Check k a.1⟩) :: T7 k
theorem tok8 (k : Nat) : TabOk Tryd.prog (T8 k) := (tok7 k).cons fun a d h => callK_sound mixed lib_ok tab_ok (tok7 k) ((chk30 k a.1).symm.trans h)
theorem chk53 (k : Nat) (x0 : Ty.D (.int .i64)) (x1 : Ty.D (.int .i64)) : Sh.schedule_inside k x0 x1 = callK tab (T8 k) std k 20 53 (Tys.of [(.int .i64), (.int .i64)]) (.bool) (x0, (x1, ())) := by kernel_rfl
def T9 (k : Nat) : Tab := (53, ⟨Tys.of [(.int .i64), (.int .i64)], .bool, fun a => Sh.schedule_inside k a.1 a.2.1⟩) :: T8 k
theorem tok9 (k : Nat) : TabOk Tryd.prog (T9 k) := (tok8 k).cons fun a d h => callK_sound mixed lib_ok tab_ok (tok8 k) ((chk53 k a.1 a.2.1).symm.trans h)
theorem chk52 (k : Nat) (x0 : Ty.D kd4) (x1 : Ty.D kd0) : Sh.schedule_placed k x0 x1 = callK tab (T9 k) std k 20 52 (Tys.of [kd4, kd0]) (.bool) (x0, (x1, ())) := by kernel_rfl
def T10 (k : Nat) : Tab := (52, ⟨Tys.of [kd4, kd0], .bool, fun a => Sh.schedule_placed k a.1 a.2.1⟩) :: T9 k
theorem tok10 (k : Nat) : TabOk Tryd.prog (T10 k) := (tok9 k).cons fun a d h => callK_sound mixed lib_ok tab_ok (tok9 k) ((chk52 k a.1 a.2.1).symm.trans h)
theorem chk34 (k : Nat) (x0 : Ty.D kd4) (x1 : Ty.D kd0) : Sh.schedule_formed k x0 x1 = callK tab (T10 k) std k 20 34 (Tys.of [kd4, kd0]) (.bool) (x0, (x1, ())) := by kernel_rfl
def T11 (k : Nat) : Tab := (34, ⟨Tys.of [kd4, kd0], .bool, fun a => Sh.schedule_formed k a.1 a.2.1⟩) :: T10 k
theorem tok11 (k : Nat) : TabOk Tryd.prog (T11 k) := (tok10 k).cons fun a d h => callK_sound mixed lib_ok tab_ok (tok10 k) ((chk34 k a.1 a.2.1).symm.trans h)
theorem chk76 (k : Nat) (x0 : Ty.D (.sl (.int .i64))) (x1 : Ty.D (.sl (.int .i64))) : Sh.slices_Compare_Lint_int k x0 x1 = callK tab (T11 k) std k 20 76 (Tys.of [(.sl (.int .i64)), (.sl (.int .i64))]) ((.int .i64)) (x0, (x1, ())) := by kernel_rfl
def T12 (k : Nat) : Tab := (76, ⟨Tys.of [(.sl (.int .i64)), (.sl (.int .i64))], (.int .i64), fun a => Sh.slices_Compare_Lint_int k a.1 a.2.1⟩) :: T11 k
theorem tok12 (k : Nat) : TabOk Tryd.prog (T12 k) := (tok11 k).cons fun a d h => callK_sound mixed lib_ok tab_ok (tok11 k) ((chk76 k a.1 a.2.1).symm.trans h)
theorem chk55 (k : Nat) (x0 : Ty.D kd0) : Sh.schedule_numbers k x0 = callK tab (T12 k) std k 20 55 (Tys.of [kd0]) (kd0) (x0, ()) := by kernel_rfl
def T13 (k : Nat) : Tab := (55, ⟨Tys.of [kd0], kd0, fun a => Sh.schedule_numbers k a.1⟩) :: T12 k
theorem tok13 (k : Nat) : TabOk Tryd.prog (T13 k) := (tok12 k).cons fun a d h => callK_sound mixed lib_ok tab_ok (tok12 k) ((chk55 k a.1).symm.trans h)
theorem chk36 (k : Nat) (x0 : Ty.D kd0) (x1 : Ty.D kd0) : Sh.schedule_compare k x0 x1 = callK tab (T13 k) std k 20 36 (Tys.of [kd0, kd0]) ((.int .i64)) (x0, (x1, ())) := by kernel_rfl
def T14 (k : Nat) : Tab := (36, ⟨Tys.of [kd0, kd0], (.int .i64), fun a => Sh.schedule_compare k a.1 a.2.1⟩) :: T13 k
theorem tok14 (k : Nat) : TabOk Tryd.prog (T14 k) := (tok13 k).cons fun a d h => callK_sound mixed lib_ok tab_ok (tok13 k) ((chk36 k a.1 a.2.1).symm.trans h)
theorem chk51 (k : Nat) (x0 : Ty.D kd4) : Sh.schedule_sized k x0 = callK tab (T14 k) std k 20 51 (Tys.of [kd4]) (.bool) (x0, ()) := by kernel_rfl
def T15 (k : Nat) : Tab := (51, ⟨Tys.of [kd4], .bool, fun a => Sh.schedule_sized k a.1⟩) :: T14 k
theorem tok15 (k : Nat) : TabOk Tryd.prog (T15 k) := (tok14 k).cons fun a d h => callK_sound mixed lib_ok tab_ok (tok14 k) ((chk51 k a.1).symm.trans h)
theorem chk33 (k : Nat) (x0 : Ty.D kd4) : Sh.schedule_form k x0 = callK tab (T15 k) std k 20 33 (Tys.of [kd4]) (.bool) (x0, ()) := by kernel_rfl
def T16 (k : Nat) : Tab := (33, ⟨Tys.of [kd4], .bool, fun a => Sh.schedule_form k a.1⟩) :: T15 k
theorem tok16 (k : Nat) : TabOk Tryd.prog (T16 k) := (tok15 k).cons fun a d h => callK_sound mixed lib_ok tab_ok (tok15 k) ((chk33 k a.1).symm.trans h)
def T17 (k : Nat) : Tab := (79, ⟨Tys.of [(.int .i64)], .str, fun a => Sh.strconv_Itoa k a.1⟩) :: T16 k
theorem tok17 (k : Nat) : TabOk Tryd.prog (T17 k) := (tok16 k).cons fun a d h => itoa79 k a.1 d h
theorem chk62 (k : Nat) (x0 : Ty.D (.str)) (x1 : Ty.D (.sl (.int .i64))) : Sh.schedule_line k x0 x1 = callK tab (T17 k) std k 20 62 (Tys.of [.str, (.sl (.int .i64))]) (.str) (x0, (x1, ())) := by kernel_rfl
def T18 (k : Nat) : Tab := (62, ⟨Tys.of [.str, (.sl (.int .i64))], .str, fun a => Sh.schedule_line k a.1 a.2.1⟩) :: T17 k
theorem tok18 (k : Nat) : TabOk Tryd.prog (T18 k) := (tok17 k).cons fun a d h => callK_sound mixed lib_ok tab_ok (tok17 k) ((chk62 k a.1 a.2.1).symm.trans h)
theorem chk41 (k : Nat) (x0 : Ty.D kd4) : Sh.schedule_Print k x0 = callK tab (T18 k) std k 20 41 (Tys.of [kd4]) (.tup (Tys.of [.str, (.int .i64)])) (x0, ()) := by kernel_rfl
def T19 (k : Nat) : Tab := (41, ⟨Tys.of [kd4], .tup (Tys.of [.str, (.int .i64)]), fun a => Sh.schedule_Print k a.1⟩) :: T18 k
theorem tok19 (k : Nat) : TabOk Tryd.prog (T19 k) := (tok18 k).cons fun a d h => callK_sound mixed lib_ok tab_ok (tok18 k) ((chk41 k a.1).symm.trans h)
theorem chk64 (k : Nat) (x0 : Ty.D (.int .i64)) (x1 : Ty.D kd2) : Sh.flow_check k x0 x1 = callK tab (T19 k) std k 20 64 (Tys.of [(.int .i64), kd2]) ((.int .i64)) (x0, (x1, ())) := by kernel_rfl
def T20 (k : Nat) : Tab := (64, ⟨Tys.of [(.int .i64), kd2], (.int .i64), fun a => Sh.flow_check k a.1 a.2.1⟩) :: T19 k
theorem tok20 (k : Nat) : TabOk Tryd.prog (T20 k) := (tok19 k).cons fun a d h => callK_sound mixed lib_ok tab_ok (tok19 k) ((chk64 k a.1 a.2.1).symm.trans h)
theorem chk42 (k : Nat) (x0 : Ty.D (.int .i64)) (x1 : Ty.D (.sl kd2)) : Sh.flow_Check k x0 x1 = callK tab (T20 k) std k 20 42 (Tys.of [(.int .i64), (.sl kd2)]) (.tup (Tys.of [(.int .i64), (.int .i64)])) (x0, (x1, ())) := by kernel_rfl
def T21 (k : Nat) : Tab := (42, ⟨Tys.of [(.int .i64), (.sl kd2)], .tup (Tys.of [(.int .i64), (.int .i64)]), fun a => Sh.flow_Check k a.1 a.2.1⟩) :: T20 k
theorem tok21 (k : Nat) : TabOk Tryd.prog (T21 k) := (tok20 k).cons fun a d h => callK_sound mixed lib_ok tab_ok (tok20 k) ((chk42 k a.1 a.2.1).symm.trans h)
theorem chk65 (k : Nat) (x0 : Ty.D kd3) (x1 : Ty.D (.int .i64)) (x2 : Ty.D (.int .i64)) : Sh.route_ends k x0 x1 x2 = callK tab (T21 k) std k 20 65 (Tys.of [kd3, (.int .i64), (.int .i64)]) ((.int .i64)) (x0, (x1, (x2, ()))) := by kernel_rfl
def T22 (k : Nat) : Tab := (65, ⟨Tys.of [kd3, (.int .i64), (.int .i64)], (.int .i64), fun a => Sh.route_ends k a.1 a.2.1 a.2.2.1⟩) :: T21 k
theorem tok22 (k : Nat) : TabOk Tryd.prog (T22 k) := (tok21 k).cons fun a d h => callK_sound mixed lib_ok tab_ok (tok21 k) ((chk65 k a.1 a.2.1 a.2.2.1).symm.trans h)
theorem chk31 (k : Nat) (x0 : Ty.D kd3) (x1 : Ty.D (.int .i64)) (x2 : Ty.D (.int .i64)) : Sh.network_find k x0 x1 x2 = callK tab (T22 k) std k 20 31 (Tys.of [kd3, (.int .i64), (.int .i64)]) ((.int .i64)) (x0, (x1, (x2, ()))) := by kernel_rfl
def T23 (k : Nat) : Tab := (31, ⟨Tys.of [kd3, (.int .i64), (.int .i64)], (.int .i64), fun a => Sh.network_find k a.1 a.2.1 a.2.2.1⟩) :: T22 k
theorem tok23 (k : Nat) : TabOk Tryd.prog (T23 k) := (tok22 k).cons fun a d h => callK_sound mixed lib_ok tab_ok (tok22 k) ((chk31 k a.1 a.2.1 a.2.2.1).symm.trans h)
theorem chk59 (k : Nat) (x0 : Ty.D kd3) (x1 : Ty.D (.int .i64)) (x2 : Ty.D (.int .i64)) : Sh.network_Index k x0 x1 x2 = callK tab (T23 k) std k 20 59 (Tys.of [kd3, (.int .i64), (.int .i64)]) ((.int .i64)) (x0, (x1, (x2, ()))) := by kernel_rfl
def T24 (k : Nat) : Tab := (59, ⟨Tys.of [kd3, (.int .i64), (.int .i64)], (.int .i64), fun a => Sh.network_Index k a.1 a.2.1 a.2.2.1⟩) :: T23 k
theorem tok24 (k : Nat) : TabOk Tryd.prog (T24 k) := (tok23 k).cons fun a d h => callK_sound mixed lib_ok tab_ok (tok23 k) ((chk59 k a.1 a.2.1 a.2.2.1).symm.trans h)
theorem chk92 (k : Nat) (x0 : Ty.D (.sl (.int .i64))) (x1 : Ty.D (.int .i64)) : Sh.slices_Index_api_Route_int k x0 x1 = callK tab (T24 k) std k 20 92 (Tys.of [(.sl (.int .i64)), (.int .i64)]) ((.int .i64)) (x0, (x1, ())) := by kernel_rfl
def T25 (k : Nat) : Tab := (92, ⟨Tys.of [(.sl (.int .i64)), (.int .i64)], (.int .i64), fun a => Sh.slices_Index_api_Route_int k a.1 a.2.1⟩) :: T24 k
theorem tok25 (k : Nat) : TabOk Tryd.prog (T25 k) := (tok24 k).cons fun a d h => callK_sound mixed lib_ok tab_ok (tok24 k) ((chk92 k a.1 a.2.1).symm.trans h)
theorem chk83 (k : Nat) (x0 : Ty.D (.sl (.int .i64))) (x1 : Ty.D (.int .i64)) : Sh.slices_Contains_api_Route_int k x0 x1 = callK tab (T25 k) std k 20 83 (Tys.of [(.sl (.int .i64)), (.int .i64)]) (.bool) (x0, (x1, ())) := by kernel_rfl
def T26 (k : Nat) : Tab := (83, ⟨Tys.of [(.sl (.int .i64)), (.int .i64)], .bool, fun a => Sh.slices_Contains_api_Route_int k a.1 a.2.1⟩) :: T25 k
theorem tok26 (k : Nat) : TabOk Tryd.prog (T26 k) := (tok25 k).cons fun a d h => callK_sound mixed lib_ok tab_ok (tok25 k) ((chk83 k a.1 a.2.1).symm.trans h)
theorem chk95 (k : Nat) (x0 : Ty.D kd3) (x1 : Ty.D (.int .i64)) (x2 : Ty.D (.int .i64)) : Sh.network_hears k x0 x1 x2 = callK tab (T26 k) std k 20 95 (Tys.of [kd3, (.int .i64), (.int .i64)]) (.bool) (x0, (x1, (x2, ()))) := by kernel_rfl
def T27 (k : Nat) : Tab := (95, ⟨Tys.of [kd3, (.int .i64), (.int .i64)], .bool, fun a => Sh.network_hears k a.1 a.2.1 a.2.2.1⟩) :: T26 k
theorem tok27 (k : Nat) : TabOk Tryd.prog (T27 k) := (tok26 k).cons fun a d h => callK_sound mixed lib_ok tab_ok (tok26 k) ((chk95 k a.1 a.2.1 a.2.2.1).symm.trans h)
theorem chk93 (k : Nat) (x0 : Ty.D kd3) (x1 : Ty.D (.int .i64)) : Sh.network_usable k x0 x1 = callK tab (T27 k) std k 20 93 (Tys.of [kd3, (.int .i64)]) (.bool) (x0, (x1, ())) := by kernel_rfl
def T28 (k : Nat) : Tab := (93, ⟨Tys.of [kd3, (.int .i64)], .bool, fun a => Sh.network_usable k a.1 a.2.1⟩) :: T27 k
theorem tok28 (k : Nat) : TabOk Tryd.prog (T28 k) := (tok27 k).cons fun a d h => callK_sound mixed lib_ok tab_ok (tok27 k) ((chk93 k a.1 a.2.1).symm.trans h)
theorem chk84 (k : Nat) (x0 : Ty.D kd3) (x1 : Ty.D (.int .i64)) : Sh.network_Usable k x0 x1 = callK tab (T28 k) std k 20 84 (Tys.of [kd3, (.int .i64)]) (.bool) (x0, (x1, ())) := by kernel_rfl
def T29 (k : Nat) : Tab := (84, ⟨Tys.of [kd3, (.int .i64)], .bool, fun a => Sh.network_Usable k a.1 a.2.1⟩) :: T28 k
theorem tok29 (k : Nat) : TabOk Tryd.prog (T29 k) := (tok28 k).cons fun a d h => callK_sound mixed lib_ok tab_ok (tok28 k) ((chk84 k a.1 a.2.1).symm.trans h)
theorem chk66 (k : Nat) (x0 : Ty.D kd3) (x1 : Ty.D (.int .i64)) (x2 : Ty.D (.int .i64)) (x3 : Ty.D (.sl (.int .i64))) : Sh.route_fault k x0 x1 x2 x3 = callK tab (T29 k) std k 20 66 (Tys.of [kd3, (.int .i64), (.int .i64), (.sl (.int .i64))]) ((.int .i64)) (x0, (x1, (x2, (x3, ())))) := by kernel_rfl
def T30 (k : Nat) : Tab := (66, ⟨Tys.of [kd3, (.int .i64), (.int .i64), (.sl (.int .i64))], (.int .i64), fun a => Sh.route_fault k a.1 a.2.1 a.2.2.1 a.2.2.2.1⟩) :: T29 k
theorem tok30 (k : Nat) : TabOk Tryd.prog (T30 k) := (tok29 k).cons fun a d h => callK_sound mixed lib_ok tab_ok (tok29 k) ((chk66 k a.1 a.2.1 a.2.2.1 a.2.2.2.1).symm.trans h)
theorem chk43 (k : Nat) (x0 : Ty.D kd3) (x1 : Ty.D (.int .i64)) (x2 : Ty.D (.int .i64)) (x3 : Ty.D (.sl (.int .i64))) : Sh.route_Check k x0 x1 x2 x3 = callK tab (T30 k) std k 20 43 (Tys.of [kd3, (.int .i64), (.int .i64), (.sl (.int .i64))]) ((.int .i64)) (x0, (x1, (x2, (x3, ())))) := by kernel_rfl
def T31 (k : Nat) : Tab := (43, ⟨Tys.of [kd3, (.int .i64), (.int .i64), (.sl (.int .i64))], (.int .i64), fun a => Sh.route_Check k a.1 a.2.1 a.2.2.1 a.2.2.2.1⟩) :: T30 k
theorem tok31 (k : Nat) : TabOk Tryd.prog (T31 k) := (tok30 k).cons fun a d h => callK_sound mixed lib_ok tab_ok (tok30 k) ((chk43 k a.1 a.2.1 a.2.2.1 a.2.2.2.1).symm.trans h)
theorem chk25 (k : Nat) (x0 : Ty.D kd5) : Sh.bound_way_check k x0 = callK tab (T31 k) std k 20 25 (Tys.of [kd5]) ((.int .i64)) (x0, ()) := by kernel_rfl
def T32 (k : Nat) : Tab := (25, ⟨Tys.of [kd5], (.int .i64), fun a => Sh.bound_way_check k a.1⟩) :: T31 k
theorem tok32 (k : Nat) : TabOk Tryd.prog (T32 k) := (tok31 k).cons fun a d h => callK_sound mixed lib_ok tab_ok (tok31 k) ((chk25 k a.1).symm.trans h)
theorem chk40 (k : Nat) (x0 : Ty.D kd5) (x1 : Ty.D kd1) : Sh.bound_way_cells k x0 x1 = callK tab (T32 k) std k 20 40 (Tys.of [kd5, kd1]) ((.sl kd0)) (x0, (x1, ())) := by kernel_rfl
def T33 (k : Nat) : Tab := (40, ⟨Tys.of [kd5, kd1], (.sl kd0), fun a => Sh.bound_way_cells k a.1 a.2.1⟩) :: T32 k
theorem tok33 (k : Nat) : TabOk Tryd.prog (T33 k) := (tok32 k).cons fun a d h => callK_sound mixed lib_ok tab_ok (tok32 k) ((chk40 k a.1 a.2.1).symm.trans h)
theorem chk67 (k : Nat) (x0 : Ty.D kd5) : Sh.bound_way_needed k x0 = callK tab (T33 k) std k 20 67 (Tys.of [kd5]) ((.int .i64)) (x0, ()) := by kernel_rfl
def T34 (k : Nat) : Tab := (67, ⟨Tys.of [kd5], (.int .i64), fun a => Sh.bound_way_needed k a.1⟩) :: T33 k
theorem tok34 (k : Nat) : TabOk Tryd.prog (T34 k) := (tok33 k).cons fun a d h => callK_sound mixed lib_ok tab_ok (tok33 k) ((chk67 k a.1).symm.trans h)
theorem chk44 (k : Nat) (x0 : Ty.D kd5) (x1 : Ty.D (.int .i64)) : Sh.bound_way_release k x0 x1 = callK tab (T34 k) std k 20 44 (Tys.of [kd5, (.int .i64)]) (.tup (Tys.of [(.int .i64), (.sl (.int .i64)), .bool])) (x0, (x1, ())) := by kernel_rfl
def T35 (k : Nat) : Tab := (44, ⟨Tys.of [kd5, (.int .i64)], .tup (Tys.of [(.int .i64), (.sl (.int .i64)), .bool]), fun a => Sh.bound_way_release k a.1 a.2.1⟩) :: T34 k
theorem tok35 (k : Nat) : TabOk Tryd.prog (T35 k) := (tok34 k).cons fun a d h => callK_sound mixed lib_ok tab_ok (tok34 k) ((chk44 k a.1 a.2.1).symm.trans h)
theorem chk26 (k : Nat) (x0 : Ty.D kd5) : Sh.bound_way_bound k x0 = callK tab (T35 k) std k 20 26 (Tys.of [kd5]) (.tup (Tys.of [(.int .i64), (.int .i64), (.sl (.int .i64)), .bool])) (x0, ()) := by kernel_rfl
def T36 (k : Nat) : Tab := (26, ⟨Tys.of [kd5], .tup (Tys.of [(.int .i64), (.int .i64), (.sl (.int .i64)), .bool]), fun a => Sh.bound_way_bound k a.1⟩) :: T35 k
theorem tok36 (k : Nat) : TabOk Tryd.prog (T36 k) := (tok35 k).cons fun a d h => callK_sound mixed lib_ok tab_ok (tok35 k) ((chk26 k a.1).symm.trans h)
theorem chk9 (k : Nat) (x0 : Ty.D kd3) (x1 : Ty.D kd4) (x2 : Ty.D kd2) (x3 : Ty.D (.sl (.int .i64))) : Sh.bound_Route k x0 x1 x2 x3 = callK tab (T36 k) std k 20 9 (Tys.of [kd3, kd4, kd2, (.sl (.int .i64))]) (.tup (Tys.of [(.int .i64), (.int .i64), (.sl (.int .i64)), (.int .i64)])) (x0, (x1, (x2, (x3, ())))) := by kernel_rfl
def T37 (k : Nat) : Tab := (9, ⟨Tys.of [kd3, kd4, kd2, (.sl (.int .i64))], .tup (Tys.of [(.int .i64), (.int .i64), (.sl (.int .i64)), (.int .i64)]), fun a => Sh.bound_Route k a.1 a.2.1 a.2.2.1 a.2.2.2.1⟩) :: T36 k
theorem tok37 (k : Nat) : TabOk Tryd.prog (T37 k) := (tok36 k).cons fun a d h => callK_sound mixed lib_ok tab_ok (tok36 k) ((chk9 k a.1 a.2.1 a.2.2.1 a.2.2.2.1).symm.trans h)
theorem chk10 (k : Nat) (x0 : Ty.D (.sl (.int .i64))) (x1 : Ty.D (.sl (.int .i64))) : Sh.slices_Equal_Lint_int k x0 x1 = callK tab (T37 k) std k 20 10 (Tys.of [(.sl (.int .i64)), (.sl (.int .i64))]) (.bool) (x0, (x1, ())) := by kernel_rfl
def T38 (k : Nat) : Tab := (10, ⟨Tys.of [(.sl (.int .i64)), (.sl (.int .i64))], .bool, fun a => Sh.slices_Equal_Lint_int k a.1 a.2.1⟩) :: T37 k
theorem tok38 (k : Nat) : TabOk Tryd.prog (T38 k) := (tok37 k).cons fun a d h => callK_sound mixed lib_ok tab_ok (tok37 k) ((chk10 k a.1 a.2.1).symm.trans h)
theorem chk14 (k : Nat) (x0 : Ty.D kd3) (x1 : Ty.D kd4) (x2 : Ty.D kd2) (x3 : Ty.D (.sl (.int .i64))) : Sh.bound_Slack k x0 x1 x2 x3 = callK tab (T38 k) std k 20 14 (Tys.of [kd3, kd4, kd2, (.sl (.int .i64))]) (.tup (Tys.of [(.int .i64), (.int .i64)])) (x0, (x1, (x2, (x3, ())))) := by kernel_rfl
def T39 (k : Nat) : Tab := (14, ⟨Tys.of [kd3, kd4, kd2, (.sl (.int .i64))], .tup (Tys.of [(.int .i64), (.int .i64)]), fun a => Sh.bound_Slack k a.1 a.2.1 a.2.2.1 a.2.2.2.1⟩) :: T38 k
theorem tok39 (k : Nat) : TabOk Tryd.prog (T39 k) := (tok38 k).cons fun a d h => callK_sound mixed lib_ok tab_ok (tok38 k) ((chk14 k a.1 a.2.1 a.2.2.1 a.2.2.2.1).symm.trans h)
theorem chk19 (k : Nat) (x0 : Ty.D (.int .i64)) : Sh.law37_example k x0 = callK tab (T39 k) std k 20 19 (Tys.of [(.int .i64)]) (.tup (Tys.of [kd3, kd4, kd2])) (x0, ()) := by kernel_rfl
def T40 (k : Nat) : Tab := (19, ⟨Tys.of [(.int .i64)], .tup (Tys.of [kd3, kd4, kd2]), fun a => Sh.law37_example k a.1⟩) :: T39 k
theorem tok40 (k : Nat) : TabOk Tryd.prog (T40 k) := (tok39 k).cons fun a d h => callK_sound mixed lib_ok tab_ok (tok39 k) ((chk19 k a.1).symm.trans h)
theorem chk6 (k : Nat)  : Sh.law37_awake k  = callK tab (T40 k) std k 20 6 (Tys.of []) (.bool) () := by kernel_rfl
def T41 (k : Nat) : Tab := (6, ⟨Tys.of [], .bool, fun a => Sh.law37_awake k ⟩) :: T40 k
theorem tok41 (k : Nat) : TabOk Tryd.prog (T41 k) := (tok40 k).cons fun a d h => callK_sound mixed lib_ok tab_ok (tok40 k) ((chk6 k ).symm.trans h)
theorem chk20 (k : Nat) (x0 : Ty.D kd3) : Sh.ref31_Few k x0 = callK tab (T41 k) std k 20 20 (Tys.of [kd3]) (.bool) (x0, ()) := by kernel_rfl
def T42 (k : Nat) : Tab := (20, ⟨Tys.of [kd3], .bool, fun a => Sh.ref31_Few k a.1⟩) :: T41 k
theorem tok42 (k : Nat) : TabOk Tryd.prog (T42 k) := (tok41 k).cons fun a d h => callK_sound mixed lib_ok tab_ok (tok41 k) ((chk20 k a.1).symm.trans h)
theorem chk7 (k : Nat) (x0 : Ty.D kd3) (x1 : Ty.D kd4) (x2 : Ty.D (.sl (.sl (.int .i64)))) : Sh.ref37_Few k x0 x1 x2 = callK tab (T42 k) std k 20 7 (Tys.of [kd3, kd4, (.sl (.sl (.int .i64)))]) (.bool) (x0, (x1, (x2, ()))) := by kernel_rfl
def T43 (k : Nat) : Tab := (7, ⟨Tys.of [kd3, kd4, (.sl (.sl (.int .i64)))], .bool, fun a => Sh.ref37_Few k a.1 a.2.1 a.2.2.1⟩) :: T42 k
theorem tok43 (k : Nat) : TabOk Tryd.prog (T43 k) := (tok42 k).cons fun a d h => callK_sound mixed lib_ok tab_ok (tok42 k) ((chk7 k a.1 a.2.1 a.2.2.1).symm.trans h)
theorem chk8 (k : Nat) (x0 : Ty.D kd3) (x1 : Ty.D kd4) (x2 : Ty.D kd2) (x3 : Ty.D (.sl (.sl (.int .i64)))) : Sh.bound_Needed k x0 x1 x2 x3 = callK tab (T43 k) std k 20 8 (Tys.of [kd3, kd4, kd2, (.sl (.sl (.int .i64)))]) (.tup (Tys.of [(.sl kd0), (.int .i64)])) (x0, (x1, (x2, (x3, ())))) := by kernel_rfl
def T44 (k : Nat) : Tab := (8, ⟨Tys.of [kd3, kd4, kd2, (.sl (.sl (.int .i64)))], .tup (Tys.of [(.sl kd0), (.int .i64)]), fun a => Sh.bound_Needed k a.1 a.2.1 a.2.2.1 a.2.2.2.1⟩) :: T43 k
theorem tok44 (k : Nat) : TabOk Tryd.prog (T44 k) := (tok43 k).cons fun a d h => callK_sound mixed lib_ok tab_ok (tok43 k) ((chk8 k a.1 a.2.1 a.2.2.1 a.2.2.2.1).symm.trans h)
theorem chk28 (k : Nat) (x0 : Ty.D (.sl kd0)) (x1 : Ty.D kd0) : Sh.slices_Index_Lapi_Cell_api_Cell k x0 x1 = callK tab (T44 k) std k 20 28 (Tys.of [(.sl kd0), kd0]) ((.int .i64)) (x0, (x1, ())) := by kernel_rfl
def T45 (k : Nat) : Tab := (28, ⟨Tys.of [(.sl kd0), kd0], (.int .i64), fun a => Sh.slices_Index_Lapi_Cell_api_Cell k a.1 a.2.1⟩) :: T44 k
theorem tok45 (k : Nat) : TabOk Tryd.prog (T45 k) := (tok44 k).cons fun a d h => callK_sound mixed lib_ok tab_ok (tok44 k) ((chk28 k a.1 a.2.1).symm.trans h)
theorem chk13 (k : Nat) (x0 : Ty.D (.sl kd0)) (x1 : Ty.D kd0) : Sh.slices_Contains_Lapi_Cell_api_Cell k x0 x1 = callK tab (T45 k) std k 20 13 (Tys.of [(.sl kd0), kd0]) (.bool) (x0, (x1, ())) := by kernel_rfl
def T46 (k : Nat) : Tab := (13, ⟨Tys.of [(.sl kd0), kd0], .bool, fun a => Sh.slices_Contains_Lapi_Cell_api_Cell k a.1 a.2.1⟩) :: T45 k
theorem tok46 (k : Nat) : TabOk Tryd.prog (T46 k) := (tok45 k).cons fun a d h => callK_sound mixed lib_ok tab_ok (tok45 k) ((chk13 k a.1 a.2.1).symm.trans h)
theorem chk3 (k : Nat) (x0 : Ty.D kd3) (x1 : Ty.D kd4) (x2 : Ty.D kd2) (x3 : Ty.D (.sl (.sl (.int .i64)))) : Sh.law37_BoundNeeds k x0 x1 x2 x3 = callK tab (T46 k) std k 20 3 (Tys.of [kd3, kd4, kd2, (.sl (.sl (.int .i64)))]) (.bool) (x0, (x1, (x2, (x3, ())))) := by kernel_rfl
def T47 (k : Nat) : Tab := (3, ⟨Tys.of [kd3, kd4, kd2, (.sl (.sl (.int .i64)))], .bool, fun a => Sh.law37_BoundNeeds k a.1 a.2.1 a.2.2.1 a.2.2.2.1⟩) :: T46 k
theorem tok47 (k : Nat) : TabOk Tryd.prog (T47 k) := (tok46 k).cons fun a d h => callK_sound mixed lib_ok tab_ok (tok46 k) ((chk3 k a.1 a.2.1 a.2.2.1 a.2.2.2.1).symm.trans h)
end Go.Evl
