import Derived.Test.YtlfjgopjjiihaaaGreatDoorDl5
namespace Go.Proofs.YtlfjgopjjiihaaaGreatDoor.Dl
open Go Go.Proofs.YtlfjgopjjiihaaaGreatDoor.E
set_option maxRecDepth 100000
set_option linter.unusedVariables false
def tab : FuncId → Option EFn := fun f => tabL.lookup f
abbrev ev (f : FuncId) (args : List V) (h : List Ob) : Option (List (V × List Ob) × Oc) := evX tab (fun _ _ _ => none) (fun _ => false) 1000 14 f args h ⟨[], []⟩
theorem awake0 : (ev 4 [] []).map (fun r => (r.1.map (·.1), r.2.asked)) = some ([.bool true], []) := by kernel_rfl
abbrev H1 : List Ob := [.row [.agg [.nilm]] 1]
abbrev H2 (n : Int) : List Ob := H1 ++ [.row [.int .i64 n] 1, .row [.ptr 0 0 0] 1]
theorem ev6 : ev 6 [.nilp] [] = some ([(.tup [.nils, .int .i64 1], [])], ⟨[], []⟩) := by kernel_rfl
theorem ev7 (v : V) : ev 7 [.nilp, v] [] = some ([(.int .i64 1, [])], ⟨[], []⟩) := by kernel_rfl
theorem ev9 : ev 9 [] [] = some ([(.ptr 0 0 0, H1)], ⟨[], []⟩) := by kernel_rfl
theorem ev8 (n : Int) : ev 8 [.nilp, .int .i64 n, .ptr 0 0 0, .nils] H1 = some ([(.int .i64 1, H2 n)], ⟨[], []⟩) := by kernel_rfl
theorem ev10 (n : Int) : ev 10 [.nilp] (H2 n) = some ([(.nils, H2 n)], ⟨[], []⟩) := by kernel_rfl
theorem ev11 (n : Int) : ev 11 [.nilp, .nils] (H2 n) = some ([(.int .i64 1, H2 n)], ⟨[], []⟩) := by kernel_rfl
def asks3 : List Nat := [8, 12, 15, 18, 23, 28, 29, 34, 40]
section
variable (P : Program) (t : Nat → V) (v : V) (n : Int)
theorem run3a : tellY [4] t (evCY P (fun _ _ _ => none) asks3 5 t c3.code [(0, .int .i64 n), (1, v)] [] ⟨[(.bool true, []), (.bool false, []), (.bool true, [])], []⟩) =
    some (.ret, [.bool true], [], [CD P 4 [] [] (.bool true) [], CD P 5 [v, i64 15] [] (.bool false) [], CD P 4 [] [] (.bool true) []]) := by kernel_rfl
theorem run3b : tellY [4] t (evCY P (fun _ _ _ => none) asks3 5 t c3.code [(0, .int .i64 n), (1, v)] [] ⟨[(.bool true, []), (.bool true, []), (.tup [.nils, .int .i64 1], []), (.int .i64 1, []), (.ptr 0 0 0, H1), (.int .i64 1, H2 n), (.nils, H2 n), (.int .i64 1, H2 n)], []⟩) =
    some (.ret, [.bool true], H2 n, [CD P 11 [.nilp, .nils] (H2 n) (.int .i64 1) (H2 n), CD P 10 [.nilp] (H2 n) .nils (H2 n), CD P 8 [.nilp, .int .i64 n, .ptr 0 0 0, .nils] H1 (.int .i64 1) (H2 n), CD P 9 [] [] (.ptr 0 0 0) H1, CD P 7 [.nilp, v] [] (.int .i64 1) [], CD P 6 [.nilp] [] (.tup [.nils, .int .i64 1]) [], CD P 5 [v, i64 15] [] (.bool true) [], CD P 4 [] [] (.bool true) []]) := by kernel_rfl
end
end Go.Proofs.YtlfjgopjjiihaaaGreatDoor.Dl
