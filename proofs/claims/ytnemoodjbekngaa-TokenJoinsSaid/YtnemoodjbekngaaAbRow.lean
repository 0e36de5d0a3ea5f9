/-
  From a run of the abstract machine to a call of the model. Conditions: those of each law.
-/
import Derived.Test.YtnemoodjbekngaaAbDrawn
import Derived.Test.YtnemoodjbekngaaAbVals
namespace Go.Ab
open Go.RowKit (Below)

theorem hrel_empty (W : World) : HRel W [] Heap.empty W := by
  refine ⟨rfl, fun i o h => ?_, fun i j oi oj x y h => ?_, Below.refl _ W⟩
  · have := Heap.lt_of_get h; exact absurd this (Nat.not_lt_zero _)
  · have := Heap.lt_of_get h; exact absurd this (Nat.not_lt_zero _)
theorem call_of_run {P : Program} {prim : CallF} (hN : NamesOk P) (hm : P.follows .mixedOrders = true) (hP : progOk 0 P = true) (hprim : CallOk P 0 prim) {f : FuncId} {args : Array Value} (hf : flatL args.toList = true)
    (h : CallsA P prim f args Heap.empty fun v _ => v = .bool true) (W : World) : Calls P f args W fun e W' => e = .returned (.bool true) ∧ Below W.heap.size W W' := by
  obtain ⟨v, H', rfl, N, hN'⟩ := h
  have hr := evalF_ok hN hm hP hprim N f args Heap.empty _ H' (hN' N (Nat.le_refl _)) W [] W args (hrel_empty W) (fun g hg => by omega) ⟨rfl, fun i hi => by
    rw [arr_getD_toList]
    exact flatL_refl [] _ hf i (by simpa using hi)⟩
  refine hr.mono ?_
  rintro e w' ⟨π', v', _, rfl, hv, hR⟩
  exact ⟨by rw [(bool_rel hv true).1 rfl], hR.below⟩
/-- No function is taken out. -/
def noprim : CallF := fun _ _ _ => none
theorem noprim_ok (P : Program) (gl : Nat) : CallOk P gl noprim := fun f args H v H' h => by cases h
end Go.Ab
