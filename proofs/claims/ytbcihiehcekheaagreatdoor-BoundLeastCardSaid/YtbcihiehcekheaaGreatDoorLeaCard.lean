/-
  BoundLeast: for every input the law answers true, and each argument reads afterwards as it read before. THE CARD: the listed tables tied to the program's text.
  Conditions: none beyond the given statement.
-/
import Derived.Test.YtbcihiehcekheaaGreatDoorLeaSnd
import Derived.Test.YtbcihiehcekheaaGreatDoorBase
namespace Go.Proofs.YtbcihiehcekheaaGreatDoor.boundLeast
open Go Go.ChangeShapes Go.WideShapes Go.ChangeAt Go.RowKit Go.Evl

theorem kinds_ok : kinds.ofA Tryz.prog Tryz.f4.params.toList = true := by kernel_rfl
theorem params_ok : ∀ t ∈ Tryz.f4.params.toList, Tryz.prog.readableRec t = true ∧ t < Tryz.prog.types.size := by
  rw [Tryz.params4]
  intro t ht
  have h : ([26, 29, 31, 35, 32].all fun t => Tryz.prog.readableRec t && Nat.blt t Tryz.prog.types.size) = true := by kernel_rfl
  have := List.all_eq_true.1 h t (by simpa using ht)
  simpa using this
theorem res_ok : Tryz.f4.resultTypes.toList = [4] := by kernel_rfl
set_option maxRecDepth 100000 in
theorem contract (H : Type) (enc : TypeId × Value → H) (W : World) (base : Nat) (args : Array Value) (ds gs : List (DataW H)) (before : List MemPlace)
    (hval : ∀ (j : Nat) t v, Tryz.f4.params[j]? = some t → args[j]? = some v → Value.okWide Tryz.prog W .any base t v)
    (hW : DataW.Whole enc Tryz.prog Tryz.f4.params.toList Rows.boundLeastSpec.vars false W args.toList ds gs before) (hL : laidMetH Tryz.prog Rows.boundLeastRow.laid W) :
    Calls Tryz.prog 4 args W fun e W' => ∃ v, e = .returned v ∧ Rows.boundLeastSpec.post enc Tryz.prog Tryz.f4 false true false false W args v W' :=
  law_contract (t := 4) laidOut params_ok rfl res_ok Tryz.underlying4 kinds_ok (fun ds h => by
    match ds, h with
    | [_, _, _, _, _], _ => rfl) sound (tabled hL) hval hW
def witArgs : Array Value := #[.agg #[.int .i64 0, .slice none 0 0, .int .i64 0, .int .i64 0, .slice none 0 0, .slice none 0 0], .agg #[.int .i64 0, .int .i64 0, .slice none 0 0], .agg #[.int .i64 0, .int .i64 0, .int .i64 0, .int .i64 0, .int .i64 0, .int .i64 0], .slice none 0 0, .slice none 0 0]
theorem laid_met (os : Os) : laidMet Tryz.prog Rows.boundLeastRow.laid ((laidWorld os).forCall (fun _ _ => 0) ⟨#[], witArgs, []⟩).memory :=
  laidMet_of_run' 8 (by kernel_rfl) (by kernel_rfl)
theorem reads (os : Os) {H : Type} (enc : TypeId × Value → H) : ∃ places, DataW.whole enc Tryz.prog ((laidWorld os).forCall (fun _ _ => 0) ⟨#[], witArgs, []⟩).memory Tryz.f4.params.toList Rows.boundLeastSpec.vars false witArgs.toList 8 = some ([.agg [.lit (.int .i64 0), .nil, .lit (.int .i64 0), .lit (.int .i64 0), .nil, .nil], .agg [.lit (.int .i64 0), .lit (.int .i64 0), .nil], .agg [.lit (.int .i64 0), .lit (.int .i64 0), .lit (.int .i64 0), .lit (.int .i64 0), .lit (.int .i64 0), .lit (.int .i64 0)], .nil, .nil], [], places) :=
  ⟨[], by kernel_rfl⟩
set_option maxRecDepth 100000 in
theorem lifted (os : Os) (started : os.Started) (H : Type) (enc : TypeId × Value → H) (F : Stop.Interp) :
    ReturnsInHanded {} Tryz.checked os 4 .any ((OpenSpec.ofChange Rows.boundLeastSpec).preRow enc Tryz.prog Tryz.f4 Rows.boundLeastRow.domain false Rows.boundLeastRow.laid) (((OpenSpec.ofChange Rows.boundLeastSpec).at F).post enc Tryz.prog Tryz.f4 false true false false) := by
  obtain ⟨places, hx⟩ := reads os enc
  refine returnsInHanded_of_row (C := Tryz.checked) (s := OpenSpec.ofChange Rows.boundLeastSpec) own started (by kernel_rfl) Tryz.func4
    (witness_row_at (enc := enc) (C := Tryz.checked) false (laidWorld os) witArgs rfl (by kernel_rfl) (by kernel_rfl) (by kernel_rfl)
      (OpenSpec.preRow_of_cond 8 hx (by kernel_rfl) (fun k hk => by cases hk) (by kernel_rfl) (laid_met os))) ?_
  intro W base args ds gs before hval hW _ _ _ hL _ _
  exact contract H enc W base args ds gs before hval hW hL
theorem said : Rows.BoundLeastSaid :=
  OpenClaim.holds_of_cond 4 Tryz.f4 rfl rfl rfl rfl rfl rfl rfl ⟨rfl, rfl, rfl, rfl, rfl⟩ rfl rfl rfl rfl rfl (by kernel_rfl) Tryz.func4 (by kernel_rfl)
    (of_decide_eq_true (by kernel_rfl)) (by unfold Func.isWrapper; first | (rw [if_pos (by decide +kernel)]; kernel_rfl) | (rw [if_neg (by decide +kernel)]; exact ⟨rfl, rfl⟩))
    (fun os started H enc _ F => by rw [OpenClaim.pre_eq_preRow]; exact lifted os started H enc F)
theorem plain (f : FuncId) (fn : Func) (hf : Tryz.pinned.checked.prog.funcNamed "hopmesh/hopmeshlaw37.BoundLeast" = some f) (hfn : Tryz.pinned.checked.prog.funcs[f]? = some fn) :
    false = Tryz.pinned.checked.prog.looks [] ∧ ∀ (j : Nat) t, fn.params[j]? = some t → Tryz.pinned.checked.prog.wantsStandIn t = false := by
  obtain rfl : f = 4 := Option.some.inj ((show Tryz.prog.funcNamed "hopmesh/hopmeshlaw37.BoundLeast" = some 4 by kernel_rfl).symm.trans hf) |>.symm
  obtain rfl : fn = Tryz.f4 := (Option.some.inj (Tryz.func4.symm.trans hfn)).symm
  refine ⟨by kernel_rfl, fun j t ht => ?_⟩
  rw [Tryz.params4] at ht
  have h : ([26, 29, 31, 35, 32].all fun t => !(Tryz.prog.wantsStandIn t)) = true := by kernel_rfl
  have q : Tryz.prog.wantsStandIn t = false := by simpa using List.all_eq_true.1 h t (by simpa using Array.mem_of_getElem? ht)
  exact q
/-- THE CARD. -/
theorem card : Rows.BoundLeastCardSaid :=
  Claim7.holds_tied_plain_at .later [] _ _ _ _ said (fun _ h => by cases h) (by kernel_rfl) (fun _ h => by cases h) boundLeast_row_tie rfl ⟨rfl, rfl⟩ (by kernel_rfl) rfl plain (by kernel_rfl)
#print axioms card
end Go.Proofs.YtbcihiehcekheaaGreatDoor.boundLeast
