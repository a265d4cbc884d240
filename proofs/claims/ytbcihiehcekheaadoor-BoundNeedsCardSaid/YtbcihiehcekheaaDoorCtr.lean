/-
  From 'the program's function answers true at contents that fit' to the contract of a law's row.
  Conditions: none.
-/
import Derived.Test.YtbcihiehcekheaaDoorEv4
import Derived.Test.YtbcihiehcekheaaDoorOpen
namespace Go.Evl
open Go Go.ChangeShapes Go.WideShapes Go.RowKit
set_option linter.unusedVariables false
set_option linter.unusedSimpArgs false
variable {H : Type} {enc : TypeId × Value → H} {P : Program}

theorem law_contract {f : FuncId} {fn : Func} {ts : Tys} {s : ChangeSpec} {apart fresh handsOn : Bool} {t : TypeId}
    (hl : laidOutB P = true) (hr : ∀ t ∈ fn.params.toList, P.readableRec t = true ∧ t < P.types.size) (hvars : s.vars = []) (hres : fn.resultTypes.toList = [t]) (ht : P.underlying t = some .bool)
    (hts : ts.ofA P fn.params.toList = true) (hspec : ∀ ds : List (DataW H), ds.length = ts.len → s.fn H ds = { results := [.lit (.bool true)], args := ds })
    (hs : ∀ d : ts.D, ts.Fit d → Sound P f (ts.enc d) (.bool true))
    {W : World} {args : Array Value} {ds gs : List (DataW H)} {before : List MemPlace} {r : Reach} {b0 : Nat} (hT : Tabled W)
    (hval : ∀ (j : Nat) t v, fn.params[j]? = some t → args[j]? = some v → Value.okWide P W r b0 t v) (hW : DataW.Whole enc P fn.params.toList s.vars apart W args.toList ds gs before) :
    Calls P f args W fun e W' => ∃ v, e = .returned v ∧ s.post enc P fn apart fresh handsOn false W args v W' := by
  obtain ⟨p, q, hA, hV, e, hz, hn⟩ := id hW
  obtain ⟨d, d1, d2, d3⟩ := open_args (r := r) (b0 := b0) ts fn.params.toList args.toList ds p hts (fun j t v h1 h2 => hval j t v (by simpa using h1) (by simpa using h2)) hA
  have hg : gs = [] := by
    rw [hvars] at hV
    exact (trodVars_none hV).1
  have hok : Ok (memOf W) W := ⟨⟨fun _ _ h => h, fun _ _ h => Clock.block_lt h, fun _ _ _ _ h => nomatch h⟩, hT⟩
  have hc := (hs d d2).2 (memOf W) W args.toList hok ((RL_enc ts d args.toList).2 d1)
  rw [Array.toArray_toList] at hc
  refine hc.mono ?_
  rintro e' W' ⟨v, M', rfl, hR, hx⟩
  cases hR
  refine ⟨_, rfl, post_of_below hl hr (by rw [hvars]; rfl) hres ht hW hx.below ?_⟩
  rw [hg, List.append_nil]
  exact hspec ds d3
end Go.Evl
