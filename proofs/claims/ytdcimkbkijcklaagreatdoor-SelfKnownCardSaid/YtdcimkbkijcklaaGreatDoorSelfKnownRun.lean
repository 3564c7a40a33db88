/-
  The closed evaluation on which the proof of 'SelfKnown' stands: the abstract machine, run by the kernel on function 4 of the program, without arguments, answers true.
-/
import Derived.Test.YtdcimkbkijcklaaGreatDoorProg
import Derived.KernelRfl
import Derived.Test.YtdcimkbkijcklaaGreatDoorFvK
namespace Go.Proofs.YtdcimkbkijcklaaGreatDoor.selfKnown
set_option maxRecDepth 1000000 in
theorem run : Go.Fv.okBool ((Go.Fv.machK Tryz.prog 3000).call 4 [] (Go.Fv.Heap.empty 12)) = true := by kernel_rfl
end Go.Proofs.YtdcimkbkijcklaaGreatDoor.selfKnown
