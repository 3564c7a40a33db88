/-
  The closed evaluation on which the proof of 'VmKnown' stands: the abstract machine, run by the kernel on function 3 of the program, without arguments, answers true.
-/
import Derived.Test.YtdcimkbkijcklaaGreatDoorProg
import Derived.KernelRfl
import Derived.Test.YtdcimkbkijcklaaGreatDoorEvF
namespace Go.Proofs.YtdcimkbkijcklaaGreatDoor.vmKnown
set_option maxRecDepth 1000000 in
theorem run : Go.Ev.okBool ((Go.Ev.machF Tryz.prog 3000).call 3 [] (Go.Ev.Heap.empty 11)) = true := by kernel_rfl
end Go.Proofs.YtdcimkbkijcklaaGreatDoor.vmKnown
