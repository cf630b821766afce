import Derived.Test.YtlfjgopjjiihaaaGreatTn
import Derived.Test.YtlfjgopjjiihaaaGreatE31
namespace Go.Proofs.YtlfjgopjjiihaaaGreat.Tn
open Go Go.Proofs.YtlfjgopjjiihaaaGreat.E
set_option maxRecDepth 100000
def tab : FuncId → Option EFn := fun f => tabL.lookup f
theorem awake0 : (evX tab (fun _ _ _ => none) (fun _ => false) 1000 14 4 [] [] ⟨[], []⟩).map (fun r => (r.1.map (·.1), r.2.asked)) = some ([.bool true], []) := by kernel_rfl
end Go.Proofs.YtlfjgopjjiihaaaGreat.Tn
