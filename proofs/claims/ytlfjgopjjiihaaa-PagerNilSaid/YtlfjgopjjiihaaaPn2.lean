import Derived.Test.YtlfjgopjjiihaaaPn
namespace Go.Proofs.Ytlfjgopjjiihaaa.Pn
open Go Go.Proofs.Ytlfjgopjjiihaaa.E
set_option maxRecDepth 100000
def tab : FuncId → Option EFn := fun f => tabL.lookup f
theorem awake0 : (evF tab 1000 12 4 [] []).map (·.1) = some (.bool true) := by kernel_rfl
end Go.Proofs.Ytlfjgopjjiihaaa.Pn
