import Derived.Test.YtbjphicipgneaaaDn
namespace Go.Proofs.Ytbjphicipgneaaa.Dn
open Go Go.Proofs.Ytbjphicipgneaaa.E
set_option maxRecDepth 100000
def tab : FuncId → Option EFn := fun f => tabL.lookup f
theorem awake0 : (evF tab 100 6 10 [] []).map (·.1) = some (.bool true) := by kernel_rfl
end Go.Proofs.Ytbjphicipgneaaa.Dn
