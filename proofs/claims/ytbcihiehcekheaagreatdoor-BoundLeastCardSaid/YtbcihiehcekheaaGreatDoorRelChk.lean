/-
  The functions of the program are what was printed, and the program answers what they answer.
  Conditions: none.
-/
import Derived.Test.YtbcihiehcekheaaGreatDoorRelCodes
import Derived.Test.YtbcihiehcekheaaGreatDoorRelSh
import Derived.Test.YtbcihiehcekheaaGreatDoorRelExt
import Derived.KernelRfl
namespace Go.Evl
open Go Go.Proofs
set_option linter.unusedVariables false
def T0 (_ : Nat) : Tab := []
theorem tok0 (k : Nat) : TabOk Tryz.prog (T0 k) := fun _ _ h => by cases h
theorem TabOk.cons {P : Program} {T : Tab} {g : FuncId} {F : TF} (h : TabOk P T) (hF : ∀ a d, F.fn a = some d → Sound P g (F.args.enc a) (F.res.enc d)) : TabOk P ((g, F) :: T) := fun f F' hm a d hd => by
  rcases List.mem_cons.1 hm with e | hm
  · cases e
    exact hF a d hd
  · exact h f F' hm a d hd
theorem mixed : Tryz.prog.follows .mixedOrders = true := by kernel_rfl
theorem chk134 (k : Nat) (x0 : Ty.D (.int .i64)) : Sh.network_checkPower_2 k x0 = callK tab (T0 k) std k 20 134 (Tys.of [(.int .i64)]) (.bool) (x0, ()) := by kernel_rfl
def T1 (k : Nat) : Tab := (134, ⟨Tys.of [(.int .i64)], .bool, fun a => Sh.network_checkPower_2 k a.1⟩) :: T0 k
theorem tok1 (k : Nat) : TabOk Tryz.prog (T1 k) := (tok0 k).cons fun a d h => callK_sound mixed lib_ok tab_ok (tok0 k) ((chk134 k a.1).symm.trans h)
theorem chk91 (k : Nat) (x0 : Ty.D kd6) : Sh.network_checkPower k x0 = callK tab (T1 k) std k 20 91 (Tys.of [kd6]) ((.int .i64)) (x0, ()) := by kernel_rfl
def T2 (k : Nat) : Tab := (91, ⟨Tys.of [kd6], (.int .i64), fun a => Sh.network_checkPower k a.1⟩) :: T1 k
theorem tok2 (k : Nat) : TabOk Tryz.prog (T2 k) := (tok1 k).cons fun a d h => callK_sound mixed lib_ok tab_ok (tok1 k) ((chk91 k a.1).symm.trans h)
theorem chk47 (k : Nat) (x0 : Ty.D (.sl (.int .i64))) : Sh.cmp_Or_int k x0 = callK tab (T2 k) std k 20 47 (Tys.of [(.sl (.int .i64))]) ((.int .i64)) (x0, ()) := by kernel_rfl
def T3 (k : Nat) : Tab := (47, ⟨Tys.of [(.sl (.int .i64))], (.int .i64), fun a => Sh.cmp_Or_int k a.1⟩) :: T2 k
theorem tok3 (k : Nat) : TabOk Tryz.prog (T3 k) := (tok2 k).cons fun a d h => callK_sound mixed lib_ok tab_ok (tok2 k) ((chk47 k a.1).symm.trans h)
theorem chk80 (k : Nat) (x0 : Ty.D (.int .i64)) : Sh.cmp_isNaN_int k x0 = callK tab (T3 k) std k 20 80 (Tys.of [(.int .i64)]) (.bool) (x0, ()) := by kernel_rfl
def T4 (k : Nat) : Tab := (80, ⟨Tys.of [(.int .i64)], .bool, fun a => Sh.cmp_isNaN_int k a.1⟩) :: T3 k
theorem tok4 (k : Nat) : TabOk Tryz.prog (T4 k) := (tok3 k).cons fun a d h => callK_sound mixed lib_ok tab_ok (tok3 k) ((chk80 k a.1).symm.trans h)
theorem chk48 (k : Nat) (x0 : Ty.D (.int .i64)) (x1 : Ty.D (.int .i64)) : Sh.cmp_Compare_int k x0 x1 = callK tab (T4 k) std k 20 48 (Tys.of [(.int .i64), (.int .i64)]) ((.int .i64)) (x0, (x1, ())) := by kernel_rfl
def T5 (k : Nat) : Tab := (48, ⟨Tys.of [(.int .i64), (.int .i64)], (.int .i64), fun a => Sh.cmp_Compare_int k a.1 a.2.1⟩) :: T4 k
theorem tok5 (k : Nat) : TabOk Tryz.prog (T5 k) := (tok4 k).cons fun a d h => callK_sound mixed lib_ok tab_ok (tok4 k) ((chk48 k a.1 a.2.1).symm.trans h)
theorem chk138 (k : Nat) (x0 : Ty.D kd2) (x1 : Ty.D kd2) : Sh.network_compare k x0 x1 = callK tab (T5 k) std k 20 138 (Tys.of [kd2, kd2]) ((.int .i64)) (x0, (x1, ())) := by kernel_rfl
def T6 (k : Nat) : Tab := (138, ⟨Tys.of [kd2, kd2], (.int .i64), fun a => Sh.network_compare k a.1 a.2.1⟩) :: T5 k
theorem tok6 (k : Nat) : TabOk Tryz.prog (T6 k) := (tok5 k).cons fun a d h => callK_sound mixed lib_ok tab_ok (tok5 k) ((chk138 k a.1 a.2.1).symm.trans h)
theorem chk92 (k : Nat) (x0 : Ty.D kd6) (x1 : Ty.D (.int .i64)) : Sh.network_checkLink k x0 x1 = callK tab (T6 k) std k 20 92 (Tys.of [kd6, (.int .i64)]) ((.int .i64)) (x0, (x1, ())) := by kernel_rfl
def T7 (k : Nat) : Tab := (92, ⟨Tys.of [kd6, (.int .i64)], (.int .i64), fun a => Sh.network_checkLink k a.1 a.2.1⟩) :: T6 k
theorem tok7 (k : Nat) : TabOk Tryz.prog (T7 k) := (tok6 k).cons fun a d h => callK_sound mixed lib_ok tab_ok (tok6 k) ((chk92 k a.1 a.2.1).symm.trans h)
theorem chk60 (k : Nat) (x0 : Ty.D kd6) : Sh.network_Check k x0 = callK tab (T7 k) std k 20 60 (Tys.of [kd6]) ((.int .i64)) (x0, ()) := by kernel_rfl
def T8 (k : Nat) : Tab := (60, ⟨Tys.of [kd6], (.int .i64), fun a => Sh.network_Check k a.1⟩) :: T7 k
theorem tok8 (k : Nat) : TabOk Tryz.prog (T8 k) := (tok7 k).cons fun a d h => callK_sound mixed lib_ok tab_ok (tok7 k) ((chk60 k a.1).symm.trans h)
theorem chk149 (k : Nat) (x0 : Ty.D kd7) : Sh.schedule_sized k x0 = callK tab (T8 k) std k 20 149 (Tys.of [kd7]) (.bool) (x0, ()) := by kernel_rfl
def T9 (k : Nat) : Tab := (149, ⟨Tys.of [kd7], .bool, fun a => Sh.schedule_sized k a.1⟩) :: T8 k
theorem tok9 (k : Nat) : TabOk Tryz.prog (T9 k) := (tok8 k).cons fun a d h => callK_sound mixed lib_ok tab_ok (tok8 k) ((chk149 k a.1).symm.trans h)
theorem chk186 (k : Nat) (x0 : Ty.D (.int .i64)) (x1 : Ty.D (.int .i64)) : Sh.schedule_inside k x0 x1 = callK tab (T9 k) std k 20 186 (Tys.of [(.int .i64), (.int .i64)]) (.bool) (x0, (x1, ())) := by kernel_rfl
def T10 (k : Nat) : Tab := (186, ⟨Tys.of [(.int .i64), (.int .i64)], .bool, fun a => Sh.schedule_inside k a.1 a.2.1⟩) :: T9 k
theorem tok10 (k : Nat) : TabOk Tryz.prog (T10 k) := (tok9 k).cons fun a d h => callK_sound mixed lib_ok tab_ok (tok9 k) ((chk186 k a.1 a.2.1).symm.trans h)
theorem chk185 (k : Nat) (x0 : Ty.D kd7) (x1 : Ty.D kd3) : Sh.schedule_placed k x0 x1 = callK tab (T10 k) std k 20 185 (Tys.of [kd7, kd3]) (.bool) (x0, (x1, ())) := by kernel_rfl
def T11 (k : Nat) : Tab := (185, ⟨Tys.of [kd7, kd3], .bool, fun a => Sh.schedule_placed k a.1 a.2.1⟩) :: T10 k
theorem tok11 (k : Nat) : TabOk Tryz.prog (T11 k) := (tok10 k).cons fun a d h => callK_sound mixed lib_ok tab_ok (tok10 k) ((chk185 k a.1 a.2.1).symm.trans h)
theorem chk150 (k : Nat) (x0 : Ty.D kd7) (x1 : Ty.D kd3) : Sh.schedule_formed k x0 x1 = callK tab (T11 k) std k 20 150 (Tys.of [kd7, kd3]) (.bool) (x0, (x1, ())) := by kernel_rfl
def T12 (k : Nat) : Tab := (150, ⟨Tys.of [kd7, kd3], .bool, fun a => Sh.schedule_formed k a.1 a.2.1⟩) :: T11 k
theorem tok12 (k : Nat) : TabOk Tryz.prog (T12 k) := (tok11 k).cons fun a d h => callK_sound mixed lib_ok tab_ok (tok11 k) ((chk150 k a.1 a.2.1).symm.trans h)
theorem chk99 (k : Nat) (x0 : Ty.D kd3) : Sh.schedule_numbers k x0 = callK tab (T12 k) std k 20 99 (Tys.of [kd3]) (kd3) (x0, ()) := by kernel_rfl
def T13 (k : Nat) : Tab := (99, ⟨Tys.of [kd3], kd3, fun a => Sh.schedule_numbers k a.1⟩) :: T12 k
theorem tok13 (k : Nat) : TabOk Tryz.prog (T13 k) := (tok12 k).cons fun a d h => callK_sound mixed lib_ok tab_ok (tok12 k) ((chk99 k a.1).symm.trans h)
theorem chk198 (k : Nat) (x0 : Ty.D (.sl (.int .i64))) (x1 : Ty.D (.sl (.int .i64))) : Sh.slices_Compare_Lint_int k x0 x1 = callK tab (T13 k) std k 20 198 (Tys.of [(.sl (.int .i64)), (.sl (.int .i64))]) ((.int .i64)) (x0, (x1, ())) := by kernel_rfl
def T14 (k : Nat) : Tab := (198, ⟨Tys.of [(.sl (.int .i64)), (.sl (.int .i64))], (.int .i64), fun a => Sh.slices_Compare_Lint_int k a.1 a.2.1⟩) :: T13 k
theorem tok14 (k : Nat) : TabOk Tryz.prog (T14 k) := (tok13 k).cons fun a d h => callK_sound mixed lib_ok tab_ok (tok13 k) ((chk198 k a.1 a.2.1).symm.trans h)
theorem chk151 (k : Nat) (x0 : Ty.D kd3) (x1 : Ty.D kd3) : Sh.schedule_compare k x0 x1 = callK tab (T14 k) std k 20 151 (Tys.of [kd3, kd3]) ((.int .i64)) (x0, (x1, ())) := by kernel_rfl
def T15 (k : Nat) : Tab := (151, ⟨Tys.of [kd3, kd3], (.int .i64), fun a => Sh.schedule_compare k a.1 a.2.1⟩) :: T14 k
theorem tok15 (k : Nat) : TabOk Tryz.prog (T15 k) := (tok14 k).cons fun a d h => callK_sound mixed lib_ok tab_ok (tok14 k) ((chk151 k a.1 a.2.1).symm.trans h)
theorem chk96 (k : Nat) (x0 : Ty.D kd7) : Sh.schedule_form k x0 = callK tab (T15 k) std k 20 96 (Tys.of [kd7]) (.bool) (x0, ()) := by kernel_rfl
def T16 (k : Nat) : Tab := (96, ⟨Tys.of [kd7], .bool, fun a => Sh.schedule_form k a.1⟩) :: T15 k
theorem tok16 (k : Nat) : TabOk Tryz.prog (T16 k) := (tok15 k).cons fun a d h => callK_sound mixed lib_ok tab_ok (tok15 k) ((chk96 k a.1).symm.trans h)
def T17 (k : Nat) : Tab := (153, ⟨Tys.of [(.int .i64)], .str, fun a => Sh.strconv_Itoa k a.1⟩) :: T16 k
theorem tok17 (k : Nat) : TabOk Tryz.prog (T17 k) := (tok16 k).cons fun a d h => itoa153 k a.1 d h
theorem chk98 (k : Nat) (x0 : Ty.D (.str)) (x1 : Ty.D (.sl (.int .i64))) : Sh.schedule_line k x0 x1 = callK tab (T17 k) std k 20 98 (Tys.of [.str, (.sl (.int .i64))]) (.str) (x0, (x1, ())) := by kernel_rfl
def T18 (k : Nat) : Tab := (98, ⟨Tys.of [.str, (.sl (.int .i64))], .str, fun a => Sh.schedule_line k a.1 a.2.1⟩) :: T17 k
theorem tok18 (k : Nat) : TabOk Tryz.prog (T18 k) := (tok17 k).cons fun a d h => callK_sound mixed lib_ok tab_ok (tok17 k) ((chk98 k a.1 a.2.1).symm.trans h)
theorem chk67 (k : Nat) (x0 : Ty.D kd7) : Sh.schedule_Print k x0 = callK tab (T18 k) std k 20 67 (Tys.of [kd7]) (.tup (Tys.of [.str, (.int .i64)])) (x0, ()) := by kernel_rfl
def T19 (k : Nat) : Tab := (67, ⟨Tys.of [kd7], .tup (Tys.of [.str, (.int .i64)]), fun a => Sh.schedule_Print k a.1⟩) :: T18 k
theorem tok19 (k : Nat) : TabOk Tryz.prog (T19 k) := (tok18 k).cons fun a d h => callK_sound mixed lib_ok tab_ok (tok18 k) ((chk67 k a.1).symm.trans h)
theorem chk95 (k : Nat) (x0 : Ty.D (.int .i64)) (x1 : Ty.D kd0) : Sh.flow_check k x0 x1 = callK tab (T19 k) std k 20 95 (Tys.of [(.int .i64), kd0]) ((.int .i64)) (x0, (x1, ())) := by kernel_rfl
def T20 (k : Nat) : Tab := (95, ⟨Tys.of [(.int .i64), kd0], (.int .i64), fun a => Sh.flow_check k a.1 a.2.1⟩) :: T19 k
theorem tok20 (k : Nat) : TabOk Tryz.prog (T20 k) := (tok19 k).cons fun a d h => callK_sound mixed lib_ok tab_ok (tok19 k) ((chk95 k a.1 a.2.1).symm.trans h)
theorem chk68 (k : Nat) (x0 : Ty.D (.int .i64)) (x1 : Ty.D (.sl kd0)) : Sh.flow_Check k x0 x1 = callK tab (T20 k) std k 20 68 (Tys.of [(.int .i64), (.sl kd0)]) (.tup (Tys.of [(.int .i64), (.int .i64)])) (x0, (x1, ())) := by kernel_rfl
def T21 (k : Nat) : Tab := (68, ⟨Tys.of [(.int .i64), (.sl kd0)], .tup (Tys.of [(.int .i64), (.int .i64)]), fun a => Sh.flow_Check k a.1 a.2.1⟩) :: T20 k
theorem tok21 (k : Nat) : TabOk Tryz.prog (T21 k) := (tok20 k).cons fun a d h => callK_sound mixed lib_ok tab_ok (tok20 k) ((chk68 k a.1 a.2.1).symm.trans h)
theorem chk101 (k : Nat) (x0 : Ty.D kd6) (x1 : Ty.D (.int .i64)) (x2 : Ty.D (.int .i64)) : Sh.route_ends k x0 x1 x2 = callK tab (T21 k) std k 20 101 (Tys.of [kd6, (.int .i64), (.int .i64)]) ((.int .i64)) (x0, (x1, (x2, ()))) := by kernel_rfl
def T22 (k : Nat) : Tab := (101, ⟨Tys.of [kd6, (.int .i64), (.int .i64)], (.int .i64), fun a => Sh.route_ends k a.1 a.2.1 a.2.2.1⟩) :: T21 k
theorem tok22 (k : Nat) : TabOk Tryz.prog (T22 k) := (tok21 k).cons fun a d h => callK_sound mixed lib_ok tab_ok (tok21 k) ((chk101 k a.1 a.2.1 a.2.2.1).symm.trans h)
theorem chk93 (k : Nat) (x0 : Ty.D kd6) (x1 : Ty.D (.int .i64)) (x2 : Ty.D (.int .i64)) : Sh.network_find k x0 x1 x2 = callK tab (T22 k) std k 20 93 (Tys.of [kd6, (.int .i64), (.int .i64)]) ((.int .i64)) (x0, (x1, (x2, ()))) := by kernel_rfl
def T23 (k : Nat) : Tab := (93, ⟨Tys.of [kd6, (.int .i64), (.int .i64)], (.int .i64), fun a => Sh.network_find k a.1 a.2.1 a.2.2.1⟩) :: T22 k
theorem tok23 (k : Nat) : TabOk Tryz.prog (T23 k) := (tok22 k).cons fun a d h => callK_sound mixed lib_ok tab_ok (tok22 k) ((chk93 k a.1 a.2.1 a.2.2.1).symm.trans h)
theorem chk61 (k : Nat) (x0 : Ty.D kd6) (x1 : Ty.D (.int .i64)) (x2 : Ty.D (.int .i64)) : Sh.network_Index k x0 x1 x2 = callK tab (T23 k) std k 20 61 (Tys.of [kd6, (.int .i64), (.int .i64)]) ((.int .i64)) (x0, (x1, (x2, ()))) := by kernel_rfl
def T24 (k : Nat) : Tab := (61, ⟨Tys.of [kd6, (.int .i64), (.int .i64)], (.int .i64), fun a => Sh.network_Index k a.1 a.2.1 a.2.2.1⟩) :: T23 k
theorem tok24 (k : Nat) : TabOk Tryz.prog (T24 k) := (tok23 k).cons fun a d h => callK_sound mixed lib_ok tab_ok (tok23 k) ((chk61 k a.1 a.2.1 a.2.2.1).symm.trans h)
theorem chk30 (k : Nat) (x0 : Ty.D (.sl (.int .i64))) (x1 : Ty.D (.int .i64)) : Sh.slices_Index_api_Route_int k x0 x1 = callK tab (T24 k) std k 20 30 (Tys.of [(.sl (.int .i64)), (.int .i64)]) ((.int .i64)) (x0, (x1, ())) := by kernel_rfl
def T25 (k : Nat) : Tab := (30, ⟨Tys.of [(.sl (.int .i64)), (.int .i64)], (.int .i64), fun a => Sh.slices_Index_api_Route_int k a.1 a.2.1⟩) :: T24 k
theorem tok25 (k : Nat) : TabOk Tryz.prog (T25 k) := (tok24 k).cons fun a d h => callK_sound mixed lib_ok tab_ok (tok24 k) ((chk30 k a.1 a.2.1).symm.trans h)
theorem chk156 (k : Nat) (x0 : Ty.D (.sl (.int .i64))) (x1 : Ty.D (.int .i64)) : Sh.slices_Contains_api_Route_int k x0 x1 = callK tab (T25 k) std k 20 156 (Tys.of [(.sl (.int .i64)), (.int .i64)]) (.bool) (x0, (x1, ())) := by kernel_rfl
def T26 (k : Nat) : Tab := (156, ⟨Tys.of [(.sl (.int .i64)), (.int .i64)], .bool, fun a => Sh.slices_Contains_api_Route_int k a.1 a.2.1⟩) :: T25 k
theorem tok26 (k : Nat) : TabOk Tryz.prog (T26 k) := (tok25 k).cons fun a d h => callK_sound mixed lib_ok tab_ok (tok25 k) ((chk156 k a.1 a.2.1).symm.trans h)
theorem chk200 (k : Nat) (x0 : Ty.D kd6) (x1 : Ty.D (.int .i64)) (x2 : Ty.D (.int .i64)) : Sh.network_hears k x0 x1 x2 = callK tab (T26 k) std k 20 200 (Tys.of [kd6, (.int .i64), (.int .i64)]) (.bool) (x0, (x1, (x2, ()))) := by kernel_rfl
def T27 (k : Nat) : Tab := (200, ⟨Tys.of [kd6, (.int .i64), (.int .i64)], .bool, fun a => Sh.network_hears k a.1 a.2.1 a.2.2.1⟩) :: T26 k
theorem tok27 (k : Nat) : TabOk Tryz.prog (T27 k) := (tok26 k).cons fun a d h => callK_sound mixed lib_ok tab_ok (tok26 k) ((chk200 k a.1 a.2.1 a.2.2.1).symm.trans h)
theorem chk191 (k : Nat) (x0 : Ty.D kd6) (x1 : Ty.D (.int .i64)) : Sh.network_usable k x0 x1 = callK tab (T27 k) std k 20 191 (Tys.of [kd6, (.int .i64)]) (.bool) (x0, (x1, ())) := by kernel_rfl
def T28 (k : Nat) : Tab := (191, ⟨Tys.of [kd6, (.int .i64)], .bool, fun a => Sh.network_usable k a.1 a.2.1⟩) :: T27 k
theorem tok28 (k : Nat) : TabOk Tryz.prog (T28 k) := (tok27 k).cons fun a d h => callK_sound mixed lib_ok tab_ok (tok27 k) ((chk191 k a.1 a.2.1).symm.trans h)
theorem chk157 (k : Nat) (x0 : Ty.D kd6) (x1 : Ty.D (.int .i64)) : Sh.network_Usable k x0 x1 = callK tab (T28 k) std k 20 157 (Tys.of [kd6, (.int .i64)]) (.bool) (x0, (x1, ())) := by kernel_rfl
def T29 (k : Nat) : Tab := (157, ⟨Tys.of [kd6, (.int .i64)], .bool, fun a => Sh.network_Usable k a.1 a.2.1⟩) :: T28 k
theorem tok29 (k : Nat) : TabOk Tryz.prog (T29 k) := (tok28 k).cons fun a d h => callK_sound mixed lib_ok tab_ok (tok28 k) ((chk157 k a.1 a.2.1).symm.trans h)
theorem chk102 (k : Nat) (x0 : Ty.D kd6) (x1 : Ty.D (.int .i64)) (x2 : Ty.D (.int .i64)) (x3 : Ty.D (.sl (.int .i64))) : Sh.route_fault k x0 x1 x2 x3 = callK tab (T29 k) std k 20 102 (Tys.of [kd6, (.int .i64), (.int .i64), (.sl (.int .i64))]) ((.int .i64)) (x0, (x1, (x2, (x3, ())))) := by kernel_rfl
def T30 (k : Nat) : Tab := (102, ⟨Tys.of [kd6, (.int .i64), (.int .i64), (.sl (.int .i64))], (.int .i64), fun a => Sh.route_fault k a.1 a.2.1 a.2.2.1 a.2.2.2.1⟩) :: T29 k
theorem tok30 (k : Nat) : TabOk Tryz.prog (T30 k) := (tok29 k).cons fun a d h => callK_sound mixed lib_ok tab_ok (tok29 k) ((chk102 k a.1 a.2.1 a.2.2.1 a.2.2.2.1).symm.trans h)
theorem chk69 (k : Nat) (x0 : Ty.D kd6) (x1 : Ty.D (.int .i64)) (x2 : Ty.D (.int .i64)) (x3 : Ty.D (.sl (.int .i64))) : Sh.route_Check k x0 x1 x2 x3 = callK tab (T30 k) std k 20 69 (Tys.of [kd6, (.int .i64), (.int .i64), (.sl (.int .i64))]) ((.int .i64)) (x0, (x1, (x2, (x3, ())))) := by kernel_rfl
def T31 (k : Nat) : Tab := (69, ⟨Tys.of [kd6, (.int .i64), (.int .i64), (.sl (.int .i64))], (.int .i64), fun a => Sh.route_Check k a.1 a.2.1 a.2.2.1 a.2.2.2.1⟩) :: T30 k
theorem tok31 (k : Nat) : TabOk Tryz.prog (T31 k) := (tok30 k).cons fun a d h => callK_sound mixed lib_ok tab_ok (tok30 k) ((chk69 k a.1 a.2.1 a.2.2.1 a.2.2.2.1).symm.trans h)
theorem chk34 (k : Nat) (x0 : Ty.D kd9) : Sh.bound_way_check k x0 = callK tab (T31 k) std k 20 34 (Tys.of [kd9]) ((.int .i64)) (x0, ()) := by kernel_rfl
def T32 (k : Nat) : Tab := (34, ⟨Tys.of [kd9], (.int .i64), fun a => Sh.bound_way_check k a.1⟩) :: T31 k
theorem tok32 (k : Nat) : TabOk Tryz.prog (T32 k) := (tok31 k).cons fun a d h => callK_sound mixed lib_ok tab_ok (tok31 k) ((chk34 k a.1).symm.trans h)
theorem chk83 (k : Nat) (x0 : Ty.D kd9) (x1 : Ty.D kd2) : Sh.bound_way_cells k x0 x1 = callK tab (T32 k) std k 20 83 (Tys.of [kd9, kd2]) ((.sl kd3)) (x0, (x1, ())) := by kernel_rfl
def T33 (k : Nat) : Tab := (83, ⟨Tys.of [kd9, kd2], (.sl kd3), fun a => Sh.bound_way_cells k a.1 a.2.1⟩) :: T32 k
theorem tok33 (k : Nat) : TabOk Tryz.prog (T33 k) := (tok32 k).cons fun a d h => callK_sound mixed lib_ok tab_ok (tok32 k) ((chk83 k a.1 a.2.1).symm.trans h)
theorem chk70 (k : Nat) (x0 : Ty.D kd9) : Sh.bound_way_needed k x0 = callK tab (T33 k) std k 20 70 (Tys.of [kd9]) ((.int .i64)) (x0, ()) := by kernel_rfl
def T34 (k : Nat) : Tab := (70, ⟨Tys.of [kd9], (.int .i64), fun a => Sh.bound_way_needed k a.1⟩) :: T33 k
theorem tok34 (k : Nat) : TabOk Tryz.prog (T34 k) := (tok33 k).cons fun a d h => callK_sound mixed lib_ok tab_ok (tok33 k) ((chk70 k a.1).symm.trans h)
theorem chk35 (k : Nat) (x0 : Ty.D kd9) (x1 : Ty.D (.int .i64)) : Sh.bound_way_release k x0 x1 = callK tab (T34 k) std k 20 35 (Tys.of [kd9, (.int .i64)]) (.tup (Tys.of [(.int .i64), (.sl (.int .i64)), .bool])) (x0, (x1, ())) := by kernel_rfl
def T35 (k : Nat) : Tab := (35, ⟨Tys.of [kd9, (.int .i64)], .tup (Tys.of [(.int .i64), (.sl (.int .i64)), .bool]), fun a => Sh.bound_way_release k a.1 a.2.1⟩) :: T34 k
theorem tok35 (k : Nat) : TabOk Tryz.prog (T35 k) := (tok34 k).cons fun a d h => callK_sound mixed lib_ok tab_ok (tok34 k) ((chk35 k a.1 a.2.1).symm.trans h)
theorem chk40 (k : Nat) (x0 : Ty.D kd9) : Sh.bound_way_bound k x0 = callK tab (T35 k) std k 20 40 (Tys.of [kd9]) (.tup (Tys.of [(.int .i64), (.int .i64), (.sl (.int .i64)), .bool])) (x0, ()) := by kernel_rfl
def T36 (k : Nat) : Tab := (40, ⟨Tys.of [kd9], .tup (Tys.of [(.int .i64), (.int .i64), (.sl (.int .i64)), .bool]), fun a => Sh.bound_way_bound k a.1⟩) :: T35 k
theorem tok36 (k : Nat) : TabOk Tryz.prog (T36 k) := (tok35 k).cons fun a d h => callK_sound mixed lib_ok tab_ok (tok35 k) ((chk40 k a.1).symm.trans h)
theorem chk12 (k : Nat) (x0 : Ty.D kd6) (x1 : Ty.D kd7) (x2 : Ty.D kd0) (x3 : Ty.D (.sl (.int .i64))) : Sh.bound_Route k x0 x1 x2 x3 = callK tab (T36 k) std k 20 12 (Tys.of [kd6, kd7, kd0, (.sl (.int .i64))]) (.tup (Tys.of [(.int .i64), (.int .i64), (.sl (.int .i64)), (.int .i64)])) (x0, (x1, (x2, (x3, ())))) := by kernel_rfl
def T37 (k : Nat) : Tab := (12, ⟨Tys.of [kd6, kd7, kd0, (.sl (.int .i64))], .tup (Tys.of [(.int .i64), (.int .i64), (.sl (.int .i64)), (.int .i64)]), fun a => Sh.bound_Route k a.1 a.2.1 a.2.2.1 a.2.2.2.1⟩) :: T36 k
theorem tok37 (k : Nat) : TabOk Tryz.prog (T37 k) := (tok36 k).cons fun a d h => callK_sound mixed lib_ok tab_ok (tok36 k) ((chk12 k a.1 a.2.1 a.2.2.1 a.2.2.2.1).symm.trans h)
theorem chk14 (k : Nat) (x0 : Ty.D (.sl (.int .i64))) (x1 : Ty.D (.sl (.int .i64))) : Sh.slices_Equal_Lint_int k x0 x1 = callK tab (T37 k) std k 20 14 (Tys.of [(.sl (.int .i64)), (.sl (.int .i64))]) (.bool) (x0, (x1, ())) := by kernel_rfl
def T38 (k : Nat) : Tab := (14, ⟨Tys.of [(.sl (.int .i64)), (.sl (.int .i64))], .bool, fun a => Sh.slices_Equal_Lint_int k a.1 a.2.1⟩) :: T37 k
theorem tok38 (k : Nat) : TabOk Tryz.prog (T38 k) := (tok37 k).cons fun a d h => callK_sound mixed lib_ok tab_ok (tok37 k) ((chk14 k a.1 a.2.1).symm.trans h)
theorem chk17 (k : Nat) (x0 : Ty.D kd6) (x1 : Ty.D kd7) (x2 : Ty.D kd0) (x3 : Ty.D (.sl (.int .i64))) : Sh.bound_Slack k x0 x1 x2 x3 = callK tab (T38 k) std k 20 17 (Tys.of [kd6, kd7, kd0, (.sl (.int .i64))]) (.tup (Tys.of [(.int .i64), (.int .i64)])) (x0, (x1, (x2, (x3, ())))) := by kernel_rfl
def T39 (k : Nat) : Tab := (17, ⟨Tys.of [kd6, kd7, kd0, (.sl (.int .i64))], .tup (Tys.of [(.int .i64), (.int .i64)]), fun a => Sh.bound_Slack k a.1 a.2.1 a.2.2.1 a.2.2.2.1⟩) :: T38 k
theorem tok39 (k : Nat) : TabOk Tryz.prog (T39 k) := (tok38 k).cons fun a d h => callK_sound mixed lib_ok tab_ok (tok38 k) ((chk17 k a.1 a.2.1 a.2.2.1 a.2.2.2.1).symm.trans h)
theorem chk32 (k : Nat) (x0 : Ty.D (.int .i64)) : Sh.law37_example k x0 = callK tab (T39 k) std k 20 32 (Tys.of [(.int .i64)]) (.tup (Tys.of [kd6, kd7, kd0])) (x0, ()) := by kernel_rfl
def T40 (k : Nat) : Tab := (32, ⟨Tys.of [(.int .i64)], .tup (Tys.of [kd6, kd7, kd0]), fun a => Sh.law37_example k a.1⟩) :: T39 k
theorem tok40 (k : Nat) : TabOk Tryz.prog (T40 k) := (tok39 k).cons fun a d h => callK_sound mixed lib_ok tab_ok (tok39 k) ((chk32 k a.1).symm.trans h)
theorem chk8 (k : Nat)  : Sh.law37_awake k  = callK tab (T40 k) std k 20 8 (Tys.of []) (.bool) () := by kernel_rfl
def T41 (k : Nat) : Tab := (8, ⟨Tys.of [], .bool, fun a => Sh.law37_awake k ⟩) :: T40 k
theorem tok41 (k : Nat) : TabOk Tryz.prog (T41 k) := (tok40 k).cons fun a d h => callK_sound mixed lib_ok tab_ok (tok40 k) ((chk8 k ).symm.trans h)
theorem chk33 (k : Nat) (x0 : Ty.D kd6) : Sh.ref31_Few k x0 = callK tab (T41 k) std k 20 33 (Tys.of [kd6]) (.bool) (x0, ()) := by kernel_rfl
def T42 (k : Nat) : Tab := (33, ⟨Tys.of [kd6], .bool, fun a => Sh.ref31_Few k a.1⟩) :: T41 k
theorem tok42 (k : Nat) : TabOk Tryz.prog (T42 k) := (tok41 k).cons fun a d h => callK_sound mixed lib_ok tab_ok (tok41 k) ((chk33 k a.1).symm.trans h)
theorem chk9 (k : Nat) (x0 : Ty.D kd6) (x1 : Ty.D kd7) (x2 : Ty.D (.sl (.sl (.int .i64)))) : Sh.ref37_Few k x0 x1 x2 = callK tab (T42 k) std k 20 9 (Tys.of [kd6, kd7, (.sl (.sl (.int .i64)))]) (.bool) (x0, (x1, (x2, ()))) := by kernel_rfl
def T43 (k : Nat) : Tab := (9, ⟨Tys.of [kd6, kd7, (.sl (.sl (.int .i64)))], .bool, fun a => Sh.ref37_Few k a.1 a.2.1 a.2.2.1⟩) :: T42 k
theorem tok43 (k : Nat) : TabOk Tryz.prog (T43 k) := (tok42 k).cons fun a d h => callK_sound mixed lib_ok tab_ok (tok42 k) ((chk9 k a.1 a.2.1 a.2.2.1).symm.trans h)
theorem chk10 (k : Nat) (x0 : Ty.D kd6) (x1 : Ty.D kd7) (x2 : Ty.D kd0) (x3 : Ty.D (.sl (.int .i64))) (x4 : Ty.D (.int .i64)) : Sh.bound_Release k x0 x1 x2 x3 x4 = callK tab (T43 k) std k 20 10 (Tys.of [kd6, kd7, kd0, (.sl (.int .i64)), (.int .i64)]) (.tup (Tys.of [(.int .i64), (.sl (.int .i64)), (.int .i64)])) (x0, (x1, (x2, (x3, (x4, ()))))) := by kernel_rfl
def T44 (k : Nat) : Tab := (10, ⟨Tys.of [kd6, kd7, kd0, (.sl (.int .i64)), (.int .i64)], .tup (Tys.of [(.int .i64), (.sl (.int .i64)), (.int .i64)]), fun a => Sh.bound_Release k a.1 a.2.1 a.2.2.1 a.2.2.2.1 a.2.2.2.2.1⟩) :: T43 k
theorem tok44 (k : Nat) : TabOk Tryz.prog (T44 k) := (tok43 k).cons fun a d h => callK_sound mixed lib_ok tab_ok (tok43 k) ((chk10 k a.1 a.2.1 a.2.2.1 a.2.2.2.1 a.2.2.2.2.1).symm.trans h)
theorem chk103 (k : Nat) (x0 : Ty.D (.int .i64)) (x1 : Ty.D (.int .i64)) (x2 : Ty.D (.int .i64)) : Sh.ref31_in k x0 x1 x2 = callK tab (T44 k) std k 20 103 (Tys.of [(.int .i64), (.int .i64), (.int .i64)]) (.bool) (x0, (x1, (x2, ()))) := by kernel_rfl
def T45 (k : Nat) : Tab := (103, ⟨Tys.of [(.int .i64), (.int .i64), (.int .i64)], .bool, fun a => Sh.ref31_in k a.1 a.2.1 a.2.2.1⟩) :: T44 k
theorem tok45 (k : Nat) : TabOk Tryz.prog (T45 k) := (tok44 k).cons fun a d h => callK_sound mixed lib_ok tab_ok (tok44 k) ((chk103 k a.1 a.2.1 a.2.2.1).symm.trans h)
theorem chk104 (k : Nat) (x0 : Ty.D kd6) : Sh.ref31_table k x0 = callK tab (T45 k) std k 20 104 (Tys.of [kd6]) ((.int .i64)) (x0, ()) := by kernel_rfl
def T46 (k : Nat) : Tab := (104, ⟨Tys.of [kd6], (.int .i64), fun a => Sh.ref31_table k a.1⟩) :: T45 k
theorem tok46 (k : Nat) : TabOk Tryz.prog (T46 k) := (tok45 k).cons fun a d h => callK_sound mixed lib_ok tab_ok (tok45 k) ((chk104 k a.1).symm.trans h)
theorem chk105 (k : Nat) (x0 : Ty.D kd6) (x1 : Ty.D (.int .i64)) : Sh.ref31_link k x0 x1 = callK tab (T46 k) std k 20 105 (Tys.of [kd6, (.int .i64)]) ((.int .i64)) (x0, (x1, ())) := by kernel_rfl
def T47 (k : Nat) : Tab := (105, ⟨Tys.of [kd6, (.int .i64)], (.int .i64), fun a => Sh.ref31_link k a.1 a.2.1⟩) :: T46 k
theorem tok47 (k : Nat) : TabOk Tryz.prog (T47 k) := (tok46 k).cons fun a d h => callK_sound mixed lib_ok tab_ok (tok46 k) ((chk105 k a.1 a.2.1).symm.trans h)
theorem chk71 (k : Nat) (x0 : Ty.D kd6) : Sh.ref31_Check k x0 = callK tab (T47 k) std k 20 71 (Tys.of [kd6]) ((.int .i64)) (x0, ()) := by kernel_rfl
def T48 (k : Nat) : Tab := (71, ⟨Tys.of [kd6], (.int .i64), fun a => Sh.ref31_Check k a.1⟩) :: T47 k
theorem tok48 (k : Nat) : TabOk Tryz.prog (T48 k) := (tok47 k).cons fun a d h => callK_sound mixed lib_ok tab_ok (tok47 k) ((chk71 k a.1).symm.trans h)
theorem chk106 (k : Nat) (x0 : Ty.D (.int .i64)) (x1 : Ty.D (.int .i64)) (x2 : Ty.D (.int .i64)) : Sh.ref35_in k x0 x1 x2 = callK tab (T48 k) std k 20 106 (Tys.of [(.int .i64), (.int .i64), (.int .i64)]) (.bool) (x0, (x1, (x2, ()))) := by kernel_rfl
def T49 (k : Nat) : Tab := (106, ⟨Tys.of [(.int .i64), (.int .i64), (.int .i64)], .bool, fun a => Sh.ref35_in k a.1 a.2.1 a.2.2.1⟩) :: T48 k
theorem tok49 (k : Nat) : TabOk Tryz.prog (T49 k) := (tok48 k).cons fun a d h => callK_sound mixed lib_ok tab_ok (tok48 k) ((chk106 k a.1 a.2.1 a.2.2.1).symm.trans h)
theorem chk107 (k : Nat) (x0 : Ty.D kd7) (x1 : Ty.D kd3) : Sh.ref35_right k x0 x1 = callK tab (T49 k) std k 20 107 (Tys.of [kd7, kd3]) (.bool) (x0, (x1, ())) := by kernel_rfl
def T50 (k : Nat) : Tab := (107, ⟨Tys.of [kd7, kd3], .bool, fun a => Sh.ref35_right k a.1 a.2.1⟩) :: T49 k
theorem tok50 (k : Nat) : TabOk Tryz.prog (T50 k) := (tok49 k).cons fun a d h => callK_sound mixed lib_ok tab_ok (tok49 k) ((chk107 k a.1 a.2.1).symm.trans h)
theorem chk158 (k : Nat) (x0 : Ty.D kd3) : Sh.ref35_numbers k x0 = callK tab (T50 k) std k 20 158 (Tys.of [kd3]) ((.sl (.int .i64))) (x0, ()) := by kernel_rfl
def T51 (k : Nat) : Tab := (158, ⟨Tys.of [kd3], (.sl (.int .i64)), fun a => Sh.ref35_numbers k a.1⟩) :: T50 k
theorem tok51 (k : Nat) : TabOk Tryz.prog (T51 k) := (tok50 k).cons fun a d h => callK_sound mixed lib_ok tab_ok (tok50 k) ((chk158 k a.1).symm.trans h)
theorem chk108 (k : Nat) (x0 : Ty.D kd3) (x1 : Ty.D kd3) : Sh.ref35_Less k x0 x1 = callK tab (T51 k) std k 20 108 (Tys.of [kd3, kd3]) (.bool) (x0, (x1, ())) := by kernel_rfl
def T52 (k : Nat) : Tab := (108, ⟨Tys.of [kd3, kd3], .bool, fun a => Sh.ref35_Less k a.1 a.2.1⟩) :: T51 k
theorem tok52 (k : Nat) : TabOk Tryz.prog (T52 k) := (tok51 k).cons fun a d h => callK_sound mixed lib_ok tab_ok (tok51 k) ((chk108 k a.1 a.2.1).symm.trans h)
theorem chk72 (k : Nat) (x0 : Ty.D kd7) : Sh.ref35_Formed k x0 = callK tab (T52 k) std k 20 72 (Tys.of [kd7]) (.bool) (x0, ()) := by kernel_rfl
def T53 (k : Nat) : Tab := (72, ⟨Tys.of [kd7], .bool, fun a => Sh.ref35_Formed k a.1⟩) :: T52 k
theorem tok53 (k : Nat) : TabOk Tryz.prog (T53 k) := (tok52 k).cons fun a d h => callK_sound mixed lib_ok tab_ok (tok52 k) ((chk72 k a.1).symm.trans h)
theorem chk109 (k : Nat) (x0 : Ty.D (.int .i64)) (x1 : Ty.D (.int .i64)) (x2 : Ty.D (.int .i64)) : Sh.ref32_in k x0 x1 x2 = callK tab (T53 k) std k 20 109 (Tys.of [(.int .i64), (.int .i64), (.int .i64)]) (.bool) (x0, (x1, (x2, ()))) := by kernel_rfl
def T54 (k : Nat) : Tab := (109, ⟨Tys.of [(.int .i64), (.int .i64), (.int .i64)], .bool, fun a => Sh.ref32_in k a.1 a.2.1 a.2.2.1⟩) :: T53 k
theorem tok54 (k : Nat) : TabOk Tryz.prog (T54 k) := (tok53 k).cons fun a d h => callK_sound mixed lib_ok tab_ok (tok53 k) ((chk109 k a.1 a.2.1 a.2.2.1).symm.trans h)
theorem chk73 (k : Nat) (x0 : Ty.D (.int .i64)) (x1 : Ty.D kd0) : Sh.ref32_Fault k x0 x1 = callK tab (T54 k) std k 20 73 (Tys.of [(.int .i64), kd0]) ((.int .i64)) (x0, (x1, ())) := by kernel_rfl
def T55 (k : Nat) : Tab := (73, ⟨Tys.of [(.int .i64), kd0], (.int .i64), fun a => Sh.ref32_Fault k a.1 a.2.1⟩) :: T54 k
theorem tok55 (k : Nat) : TabOk Tryz.prog (T55 k) := (tok54 k).cons fun a d h => callK_sound mixed lib_ok tab_ok (tok54 k) ((chk73 k a.1 a.2.1).symm.trans h)
theorem chk159 (k : Nat) (x0 : Ty.D kd6) (x1 : Ty.D (.int .i64)) : Sh.ref33_node k x0 x1 = callK tab (T55 k) std k 20 159 (Tys.of [kd6, (.int .i64)]) (.bool) (x0, (x1, ())) := by kernel_rfl
def T56 (k : Nat) : Tab := (159, ⟨Tys.of [kd6, (.int .i64)], .bool, fun a => Sh.ref33_node k a.1 a.2.1⟩) :: T55 k
theorem tok56 (k : Nat) : TabOk Tryz.prog (T56 k) := (tok55 k).cons fun a d h => callK_sound mixed lib_ok tab_ok (tok55 k) ((chk159 k a.1 a.2.1).symm.trans h)
theorem chk110 (k : Nat) (x0 : Ty.D kd6) (x1 : Ty.D (.int .i64)) (x2 : Ty.D (.int .i64)) : Sh.ref33_ends k x0 x1 x2 = callK tab (T56 k) std k 20 110 (Tys.of [kd6, (.int .i64), (.int .i64)]) ((.int .i64)) (x0, (x1, (x2, ()))) := by kernel_rfl
def T57 (k : Nat) : Tab := (110, ⟨Tys.of [kd6, (.int .i64), (.int .i64)], (.int .i64), fun a => Sh.ref33_ends k a.1 a.2.1 a.2.2.1⟩) :: T56 k
theorem tok57 (k : Nat) : TabOk Tryz.prog (T57 k) := (tok56 k).cons fun a d h => callK_sound mixed lib_ok tab_ok (tok56 k) ((chk110 k a.1 a.2.1 a.2.2.1).symm.trans h)
theorem chk81 (k : Nat) (x0 : Ty.D kd6) (x1 : Ty.D (.int .i64)) (x2 : Ty.D (.int .i64)) : Sh.ref31_Find k x0 x1 x2 = callK tab (T57 k) std k 20 81 (Tys.of [kd6, (.int .i64), (.int .i64)]) ((.int .i64)) (x0, (x1, (x2, ()))) := by kernel_rfl
def T58 (k : Nat) : Tab := (81, ⟨Tys.of [kd6, (.int .i64), (.int .i64)], (.int .i64), fun a => Sh.ref31_Find k a.1 a.2.1 a.2.2.1⟩) :: T57 k
theorem tok58 (k : Nat) : TabOk Tryz.prog (T58 k) := (tok57 k).cons fun a d h => callK_sound mixed lib_ok tab_ok (tok57 k) ((chk81 k a.1 a.2.1 a.2.2.1).symm.trans h)
theorem chk192 (k : Nat) (x0 : Ty.D kd6) (x1 : Ty.D (.int .i64)) (x2 : Ty.D (.int .i64)) : Sh.ref31_Heard k x0 x1 x2 = callK tab (T58 k) std k 20 192 (Tys.of [kd6, (.int .i64), (.int .i64)]) (.bool) (x0, (x1, (x2, ()))) := by kernel_rfl
def T59 (k : Nat) : Tab := (192, ⟨Tys.of [kd6, (.int .i64), (.int .i64)], .bool, fun a => Sh.ref31_Heard k a.1 a.2.1 a.2.2.1⟩) :: T58 k
theorem tok59 (k : Nat) : TabOk Tryz.prog (T59 k) := (tok58 k).cons fun a d h => callK_sound mixed lib_ok tab_ok (tok58 k) ((chk192 k a.1 a.2.1 a.2.2.1).symm.trans h)
theorem chk160 (k : Nat) (x0 : Ty.D kd6) (x1 : Ty.D (.int .i64)) (x2 : Ty.D (.int .i64)) : Sh.ref31_Good k x0 x1 x2 = callK tab (T59 k) std k 20 160 (Tys.of [kd6, (.int .i64), (.int .i64)]) (.bool) (x0, (x1, (x2, ()))) := by kernel_rfl
def T60 (k : Nat) : Tab := (160, ⟨Tys.of [kd6, (.int .i64), (.int .i64)], .bool, fun a => Sh.ref31_Good k a.1 a.2.1 a.2.2.1⟩) :: T59 k
theorem tok60 (k : Nat) : TabOk Tryz.prog (T60 k) := (tok59 k).cons fun a d h => callK_sound mixed lib_ok tab_ok (tok59 k) ((chk160 k a.1 a.2.1 a.2.2.1).symm.trans h)
theorem chk111 (k : Nat) (x0 : Ty.D kd6) (x1 : Ty.D (.int .i64)) (x2 : Ty.D (.int .i64)) (x3 : Ty.D (.sl (.int .i64))) : Sh.ref33_fault k x0 x1 x2 x3 = callK tab (T60 k) std k 20 111 (Tys.of [kd6, (.int .i64), (.int .i64), (.sl (.int .i64))]) ((.int .i64)) (x0, (x1, (x2, (x3, ())))) := by kernel_rfl
def T61 (k : Nat) : Tab := (111, ⟨Tys.of [kd6, (.int .i64), (.int .i64), (.sl (.int .i64))], (.int .i64), fun a => Sh.ref33_fault k a.1 a.2.1 a.2.2.1 a.2.2.2.1⟩) :: T60 k
theorem tok61 (k : Nat) : TabOk Tryz.prog (T61 k) := (tok60 k).cons fun a d h => callK_sound mixed lib_ok tab_ok (tok60 k) ((chk111 k a.1 a.2.1 a.2.2.1 a.2.2.2.1).symm.trans h)
theorem chk74 (k : Nat) (x0 : Ty.D kd6) (x1 : Ty.D (.int .i64)) (x2 : Ty.D (.int .i64)) (x3 : Ty.D (.sl (.int .i64))) : Sh.ref33_Check k x0 x1 x2 x3 = callK tab (T61 k) std k 20 74 (Tys.of [kd6, (.int .i64), (.int .i64), (.sl (.int .i64))]) ((.int .i64)) (x0, (x1, (x2, (x3, ())))) := by kernel_rfl
def T62 (k : Nat) : Tab := (74, ⟨Tys.of [kd6, (.int .i64), (.int .i64), (.sl (.int .i64))], (.int .i64), fun a => Sh.ref33_Check k a.1 a.2.1 a.2.2.1 a.2.2.2.1⟩) :: T61 k
theorem tok62 (k : Nat) : TabOk Tryz.prog (T62 k) := (tok61 k).cons fun a d h => callK_sound mixed lib_ok tab_ok (tok61 k) ((chk74 k a.1 a.2.1 a.2.2.1 a.2.2.2.1).symm.trans h)
theorem chk36 (k : Nat) (x0 : Ty.D kd6) (x1 : Ty.D kd7) (x2 : Ty.D kd0) (x3 : Ty.D (.sl (.int .i64))) : Sh.ref37_Fault k x0 x1 x2 x3 = callK tab (T62 k) std k 20 36 (Tys.of [kd6, kd7, kd0, (.sl (.int .i64))]) ((.int .i64)) (x0, (x1, (x2, (x3, ())))) := by kernel_rfl
def T63 (k : Nat) : Tab := (36, ⟨Tys.of [kd6, kd7, kd0, (.sl (.int .i64))], (.int .i64), fun a => Sh.ref37_Fault k a.1 a.2.1 a.2.2.1 a.2.2.2.1⟩) :: T62 k
theorem tok63 (k : Nat) : TabOk Tryz.prog (T63 k) := (tok62 k).cons fun a d h => callK_sound mixed lib_ok tab_ok (tok62 k) ((chk36 k a.1 a.2.1 a.2.2.1 a.2.2.2.1).symm.trans h)
theorem chk37 (k : Nat) (x0 : Ty.D (.int .i64)) (x1 : Ty.D (.int .i64)) (x2 : Ty.D (.int .i64)) : Sh.ref37_in k x0 x1 x2 = callK tab (T63 k) std k 20 37 (Tys.of [(.int .i64), (.int .i64), (.int .i64)]) (.bool) (x0, (x1, (x2, ()))) := by kernel_rfl
def T64 (k : Nat) : Tab := (37, ⟨Tys.of [(.int .i64), (.int .i64), (.int .i64)], .bool, fun a => Sh.ref37_in k a.1 a.2.1 a.2.2.1⟩) :: T63 k
theorem tok64 (k : Nat) : TabOk Tryz.prog (T64 k) := (tok63 k).cons fun a d h => callK_sound mixed lib_ok tab_ok (tok63 k) ((chk37 k a.1 a.2.1 a.2.2.1).symm.trans h)
theorem chk50 (k : Nat) (x0 : Ty.D kd6) (x1 : Ty.D (.int .i64)) (x2 : Ty.D (.int .i64)) : Sh.ref33_Loss k x0 x1 x2 = callK tab (T64 k) std k 20 50 (Tys.of [kd6, (.int .i64), (.int .i64)]) ((.int .i64)) (x0, (x1, (x2, ()))) := by kernel_rfl
def T65 (k : Nat) : Tab := (50, ⟨Tys.of [kd6, (.int .i64), (.int .i64)], (.int .i64), fun a => Sh.ref33_Loss k a.1 a.2.1 a.2.2.1⟩) :: T64 k
theorem tok65 (k : Nat) : TabOk Tryz.prog (T65 k) := (tok64 k).cons fun a d h => callK_sound mixed lib_ok tab_ok (tok64 k) ((chk50 k a.1 a.2.1 a.2.2.1).symm.trans h)
theorem chk75 (k : Nat) (x0 : Ty.D kd7) (x1 : Ty.D kd0) (x2 : Ty.D (.int .i64)) (x3 : Ty.D (.int .i64)) (x4 : Ty.D (.int .i64)) (x5 : Ty.D (.int .i64)) (x6 : Ty.D (.int .i64)) : Sh.ref37_hop k x0 x1 x2 x3 x4 x5 x6 = callK tab (T65 k) std k 20 75 (Tys.of [kd7, kd0, (.int .i64), (.int .i64), (.int .i64), (.int .i64), (.int .i64)]) (.tup (Tys.of [(.sl (.int .i64)), .bool])) (x0, (x1, (x2, (x3, (x4, (x5, (x6, ()))))))) := by kernel_rfl
def T66 (k : Nat) : Tab := (75, ⟨Tys.of [kd7, kd0, (.int .i64), (.int .i64), (.int .i64), (.int .i64), (.int .i64)], .tup (Tys.of [(.sl (.int .i64)), .bool]), fun a => Sh.ref37_hop k a.1 a.2.1 a.2.2.1 a.2.2.2.1 a.2.2.2.2.1 a.2.2.2.2.2.1 a.2.2.2.2.2.2.1⟩) :: T65 k
theorem tok66 (k : Nat) : TabOk Tryz.prog (T66 k) := (tok65 k).cons fun a d h => callK_sound mixed lib_ok tab_ok (tok65 k) ((chk75 k a.1 a.2.1 a.2.2.1 a.2.2.2.1 a.2.2.2.2.1 a.2.2.2.2.2.1 a.2.2.2.2.2.2.1).symm.trans h)
theorem chk38 (k : Nat) (x0 : Ty.D kd6) (x1 : Ty.D kd7) (x2 : Ty.D kd0) (x3 : Ty.D (.sl (.int .i64))) (x4 : Ty.D (.int .i64)) (x5 : Ty.D (.int .i64)) : Sh.ref37_Slots k x0 x1 x2 x3 x4 x5 = callK tab (T66 k) std k 20 38 (Tys.of [kd6, kd7, kd0, (.sl (.int .i64)), (.int .i64), (.int .i64)]) (.tup (Tys.of [(.sl (.int .i64)), .bool])) (x0, (x1, (x2, (x3, (x4, (x5, ())))))) := by kernel_rfl
def T67 (k : Nat) : Tab := (38, ⟨Tys.of [kd6, kd7, kd0, (.sl (.int .i64)), (.int .i64), (.int .i64)], .tup (Tys.of [(.sl (.int .i64)), .bool]), fun a => Sh.ref37_Slots k a.1 a.2.1 a.2.2.1 a.2.2.2.1 a.2.2.2.2.1 a.2.2.2.2.2.1⟩) :: T66 k
theorem tok67 (k : Nat) : TabOk Tryz.prog (T67 k) := (tok66 k).cons fun a d h => callK_sound mixed lib_ok tab_ok (tok66 k) ((chk38 k a.1 a.2.1 a.2.2.1 a.2.2.2.1 a.2.2.2.2.1 a.2.2.2.2.2.1).symm.trans h)
theorem chk39 (k : Nat) (x0 : Ty.D (.sl (.int .i64))) (x1 : Ty.D (.int .i64)) : Sh.ref37_relative k x0 x1 = callK tab (T67 k) std k 20 39 (Tys.of [(.sl (.int .i64)), (.int .i64)]) ((.sl (.int .i64))) (x0, (x1, ())) := by kernel_rfl
def T68 (k : Nat) : Tab := (39, ⟨Tys.of [(.sl (.int .i64)), (.int .i64)], (.sl (.int .i64)), fun a => Sh.ref37_relative k a.1 a.2.1⟩) :: T67 k
theorem tok68 (k : Nat) : TabOk Tryz.prog (T68 k) := (tok67 k).cons fun a d h => callK_sound mixed lib_ok tab_ok (tok67 k) ((chk39 k a.1 a.2.1).symm.trans h)
theorem chk11 (k : Nat) (x0 : Ty.D kd6) (x1 : Ty.D kd7) (x2 : Ty.D kd0) (x3 : Ty.D (.sl (.int .i64))) (x4 : Ty.D (.int .i64)) : Sh.ref37_Release k x0 x1 x2 x3 x4 = callK tab (T68 k) std k 20 11 (Tys.of [kd6, kd7, kd0, (.sl (.int .i64)), (.int .i64)]) (.tup (Tys.of [(.int .i64), (.sl (.int .i64)), (.int .i64)])) (x0, (x1, (x2, (x3, (x4, ()))))) := by kernel_rfl
def T69 (k : Nat) : Tab := (11, ⟨Tys.of [kd6, kd7, kd0, (.sl (.int .i64)), (.int .i64)], .tup (Tys.of [(.int .i64), (.sl (.int .i64)), (.int .i64)]), fun a => Sh.ref37_Release k a.1 a.2.1 a.2.2.1 a.2.2.2.1 a.2.2.2.2.1⟩) :: T68 k
theorem tok69 (k : Nat) : TabOk Tryz.prog (T69 k) := (tok68 k).cons fun a d h => callK_sound mixed lib_ok tab_ok (tok68 k) ((chk11 k a.1 a.2.1 a.2.2.1 a.2.2.2.1 a.2.2.2.2.1).symm.trans h)
theorem chk41 (k : Nat) (x0 : Ty.D kd6) (x1 : Ty.D kd7) (x2 : Ty.D kd0) (x3 : Ty.D (.sl (.int .i64))) (x4 : Ty.D (.int .i64)) : Sh.ref37_Most k x0 x1 x2 x3 x4 = callK tab (T69 k) std k 20 41 (Tys.of [kd6, kd7, kd0, (.sl (.int .i64)), (.int .i64)]) (.tup (Tys.of [(.int .i64), (.int .i64), (.sl (.int .i64)), .bool])) (x0, (x1, (x2, (x3, (x4, ()))))) := by kernel_rfl
def T70 (k : Nat) : Tab := (41, ⟨Tys.of [kd6, kd7, kd0, (.sl (.int .i64)), (.int .i64)], .tup (Tys.of [(.int .i64), (.int .i64), (.sl (.int .i64)), .bool]), fun a => Sh.ref37_Most k a.1 a.2.1 a.2.2.1 a.2.2.2.1 a.2.2.2.2.1⟩) :: T69 k
theorem tok70 (k : Nat) : TabOk Tryz.prog (T70 k) := (tok69 k).cons fun a d h => callK_sound mixed lib_ok tab_ok (tok69 k) ((chk41 k a.1 a.2.1 a.2.2.1 a.2.2.2.1 a.2.2.2.2.1).symm.trans h)
theorem chk13 (k : Nat) (x0 : Ty.D kd6) (x1 : Ty.D kd7) (x2 : Ty.D kd0) (x3 : Ty.D (.sl (.int .i64))) : Sh.ref37_Route k x0 x1 x2 x3 = callK tab (T70 k) std k 20 13 (Tys.of [kd6, kd7, kd0, (.sl (.int .i64))]) (.tup (Tys.of [(.int .i64), (.int .i64), (.sl (.int .i64)), (.int .i64)])) (x0, (x1, (x2, (x3, ())))) := by kernel_rfl
def T71 (k : Nat) : Tab := (13, ⟨Tys.of [kd6, kd7, kd0, (.sl (.int .i64))], .tup (Tys.of [(.int .i64), (.int .i64), (.sl (.int .i64)), (.int .i64)]), fun a => Sh.ref37_Route k a.1 a.2.1 a.2.2.1 a.2.2.2.1⟩) :: T70 k
theorem tok71 (k : Nat) : TabOk Tryz.prog (T71 k) := (tok70 k).cons fun a d h => callK_sound mixed lib_ok tab_ok (tok70 k) ((chk13 k a.1 a.2.1 a.2.2.1 a.2.2.2.1).symm.trans h)
theorem chk3 (k : Nat) (x0 : Ty.D kd6) (x1 : Ty.D kd7) (x2 : Ty.D kd0) (x3 : Ty.D (.sl (.int .i64))) (x4 : Ty.D (.int .i64)) : Sh.law37_BoundReleases k x0 x1 x2 x3 x4 = callK tab (T71 k) std k 20 3 (Tys.of [kd6, kd7, kd0, (.sl (.int .i64)), (.int .i64)]) (.bool) (x0, (x1, (x2, (x3, (x4, ()))))) := by kernel_rfl
def T72 (k : Nat) : Tab := (3, ⟨Tys.of [kd6, kd7, kd0, (.sl (.int .i64)), (.int .i64)], .bool, fun a => Sh.law37_BoundReleases k a.1 a.2.1 a.2.2.1 a.2.2.2.1 a.2.2.2.2.1⟩) :: T71 k
theorem tok72 (k : Nat) : TabOk Tryz.prog (T72 k) := (tok71 k).cons fun a d h => callK_sound mixed lib_ok tab_ok (tok71 k) ((chk3 k a.1 a.2.1 a.2.2.1 a.2.2.2.1 a.2.2.2.2.1).symm.trans h)
theorem chk15 (k : Nat) (x0 : Ty.D kd6) (x1 : Ty.D kd7) (x2 : Ty.D kd0) (x3 : Ty.D (.sl (.sl (.int .i64)))) : Sh.bound_Least k x0 x1 x2 x3 = callK tab (T72 k) std k 20 15 (Tys.of [kd6, kd7, kd0, (.sl (.sl (.int .i64)))]) (.tup (Tys.of [(.int .i64), (.int .i64)])) (x0, (x1, (x2, (x3, ())))) := by kernel_rfl
def T73 (k : Nat) : Tab := (15, ⟨Tys.of [kd6, kd7, kd0, (.sl (.sl (.int .i64)))], .tup (Tys.of [(.int .i64), (.int .i64)]), fun a => Sh.bound_Least k a.1 a.2.1 a.2.2.1 a.2.2.2.1⟩) :: T72 k
theorem tok73 (k : Nat) : TabOk Tryz.prog (T73 k) := (tok72 k).cons fun a d h => callK_sound mixed lib_ok tab_ok (tok72 k) ((chk15 k a.1 a.2.1 a.2.2.1 a.2.2.2.1).symm.trans h)
theorem chk16 (k : Nat) (x0 : Ty.D kd6) (x1 : Ty.D kd7) (x2 : Ty.D kd0) (x3 : Ty.D (.sl (.sl (.int .i64)))) : Sh.ref37_Least k x0 x1 x2 x3 = callK tab (T73 k) std k 20 16 (Tys.of [kd6, kd7, kd0, (.sl (.sl (.int .i64)))]) (.tup (Tys.of [(.int .i64), (.int .i64)])) (x0, (x1, (x2, (x3, ())))) := by kernel_rfl
def T74 (k : Nat) : Tab := (16, ⟨Tys.of [kd6, kd7, kd0, (.sl (.sl (.int .i64)))], .tup (Tys.of [(.int .i64), (.int .i64)]), fun a => Sh.ref37_Least k a.1 a.2.1 a.2.2.1 a.2.2.2.1⟩) :: T73 k
theorem tok74 (k : Nat) : TabOk Tryz.prog (T74 k) := (tok73 k).cons fun a d h => callK_sound mixed lib_ok tab_ok (tok73 k) ((chk16 k a.1 a.2.1 a.2.2.1 a.2.2.2.1).symm.trans h)
theorem chk18 (k : Nat) (x0 : Ty.D kd6) (x1 : Ty.D kd7) (x2 : Ty.D kd0) (x3 : Ty.D (.sl (.int .i64))) : Sh.ref37_Slack k x0 x1 x2 x3 = callK tab (T74 k) std k 20 18 (Tys.of [kd6, kd7, kd0, (.sl (.int .i64))]) (.tup (Tys.of [(.int .i64), (.int .i64)])) (x0, (x1, (x2, (x3, ())))) := by kernel_rfl
def T75 (k : Nat) : Tab := (18, ⟨Tys.of [kd6, kd7, kd0, (.sl (.int .i64))], .tup (Tys.of [(.int .i64), (.int .i64)]), fun a => Sh.ref37_Slack k a.1 a.2.1 a.2.2.1 a.2.2.2.1⟩) :: T74 k
theorem tok75 (k : Nat) : TabOk Tryz.prog (T75 k) := (tok74 k).cons fun a d h => callK_sound mixed lib_ok tab_ok (tok74 k) ((chk18 k a.1 a.2.1 a.2.2.1 a.2.2.2.1).symm.trans h)
theorem chk4 (k : Nat) (x0 : Ty.D kd6) (x1 : Ty.D kd7) (x2 : Ty.D kd0) (x3 : Ty.D (.sl (.sl (.int .i64)))) (x4 : Ty.D (.sl (.int .i64))) : Sh.law37_BoundLeast k x0 x1 x2 x3 x4 = callK tab (T75 k) std k 20 4 (Tys.of [kd6, kd7, kd0, (.sl (.sl (.int .i64))), (.sl (.int .i64))]) (.bool) (x0, (x1, (x2, (x3, (x4, ()))))) := by kernel_rfl
def T76 (k : Nat) : Tab := (4, ⟨Tys.of [kd6, kd7, kd0, (.sl (.sl (.int .i64))), (.sl (.int .i64))], .bool, fun a => Sh.law37_BoundLeast k a.1 a.2.1 a.2.2.1 a.2.2.2.1 a.2.2.2.2.1⟩) :: T75 k
theorem tok76 (k : Nat) : TabOk Tryz.prog (T76 k) := (tok75 k).cons fun a d h => callK_sound mixed lib_ok tab_ok (tok75 k) ((chk4 k a.1 a.2.1 a.2.2.1 a.2.2.2.1 a.2.2.2.2.1).symm.trans h)
end Go.Evl
