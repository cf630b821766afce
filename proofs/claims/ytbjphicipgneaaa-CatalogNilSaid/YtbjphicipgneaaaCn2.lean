import Derived.Test.YtbjphicipgneaaaCn
namespace Go.Proofs.Ytbjphicipgneaaa.Cn
open Go Go.Proofs.Ytbjphicipgneaaa.E
set_option maxRecDepth 100000
def tab : FuncId → Option EFn := fun f => tabL.lookup f

end Go.Proofs.Ytbjphicipgneaaa.Cn
