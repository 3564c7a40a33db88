/-
  Ev, part G: what a closed evaluation by 'machK' gives: the call answers true in every world, and turns nothing that was there.
-/
import Derived.Test.YtdcimkbkijcklaaGreatDoorFvK
import Derived.Test.YtdcimkbkijcklaaGreatDoorFvZ
namespace Go.Fv
open Go.RowKit
variable {P : Program}

theorem calls_trueK (hnum : NoNum P) (hmix : P.follows .mixedOrders = true) {f : FuncId} (n d : Nat) (hc : okBool ((machK P n).call f [] (Heap.empty d)) = true) (w : World) :
    Calls P f #[] w fun e w' => e = .returned (.bool true) ∧ Below w.heap.size w w' := by
  rw [machK_eq] at hc
  exact calls_true hnum hmix n d hc w

/-- No function of the program is 'runtime.NumGoroutine': a closed fact. -/
theorem noNum_of (h : (P.funcs.toList.all fun fn => !(fn.name == "runtime.NumGoroutine")) = true) : NoNum P := by
  intro f fn hf
  have h := (List.all_eq_true.mp h) fn (by
    have : fn ∈ P.funcs := Array.mem_of_getElem? hf
    simpa using this)
  simpa using h
end Go.Fv
