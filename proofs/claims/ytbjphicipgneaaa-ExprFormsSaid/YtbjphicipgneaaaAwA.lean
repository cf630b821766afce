/- awake of the expressions' law: reckoned. No condition. -/
import Derived.Test.YtbjphicipgneaaaEx
import Derived.Test.YtbjphicipgneaaaLns
import Derived.Test.YtbjphicipgneaaaL3
namespace Go.Proofs.Ytbjphicipgneaaa.Aw
open Go Go.Proofs.Ytbjphicipgneaaa.E
open Go.Proofs.Ytbjphicipgneaaa.Ln
open Go.Proofs.Ytbjphicipgneaaa.Ex
set_option maxRecDepth 100000
set_option linter.unusedVariables false
def tabL : List (Nat × EFn) := [(6, c6), (20, c20), (21, c21), (24, c24), (25, c25), (26, c26), (27, c27), (28, c28), (29, c29), (43, c43), (56, c56), (57, c57), (58, c58), (59, c59), (73, c73), (74, c74), (76, c76), (79, c79), (80, c80), (81, c81), (82, c82), (83, c83), (84, c84), (85, c85), (86, c86), (95, c95), (96, c96), (97, c97), (98, c98), (99, c99), (100, c100), (101, c101), (102, c102), (104, c104), (105, c105), (106, c106), (113, c113), (114, c114), (115, c115), (116, c116), (117, c117), (120, c120), (123, c123), (124, c124), (125, c125), (126, c126), (129, c129), (130, c130), (131, c131), (132, c132), (133, c133)]
def tab : FuncId → Option EFn := fun f => tabL.lookup f
abbrev ev (f : FuncId) (args : List V) (h : List Ob) : Option (List (V × List Ob) × Oc) := evX tab (fun _ _ _ => none) (fun _ => false) 1000 40 f args h ⟨[], []⟩
theorem awake0 : (ev 43 [] []).map (fun r => (r.1.map (·.1), r.2.asked)) = some ([.bool true], []) := by kernel_rfl
theorem rows : TabOk Try.prog tab := tabOk_of (rows_cons ⟨_, Try.func6, ok6, en6⟩ (rows_cons ⟨_, Try.func20, ok20, en20⟩ (rows_cons ⟨_, Try.func21, ok21, en21⟩ (rows_cons ⟨_, Try.func24, ok24, en24⟩ (rows_cons ⟨_, Try.func25, ok25, en25⟩ (rows_cons ⟨_, Try.func26, ok26, en26⟩ (rows_cons ⟨_, Try.func27, ok27, en27⟩ (rows_cons ⟨_, Try.func28, ok28, en28⟩ (rows_cons ⟨_, Try.func29, ok29, en29⟩ (rows_cons ⟨_, Try.func43, ok43, en43⟩ (rows_cons ⟨_, Try.func56, ok56, en56⟩ (rows_cons ⟨_, Try.func57, ok57, en57⟩ (rows_cons ⟨_, Try.func58, ok58, en58⟩ (rows_cons ⟨_, Try.func59, ok59, en59⟩ (rows_cons ⟨_, Try.func73, ok73, en73⟩ (rows_cons ⟨_, Try.func74, ok74, en74⟩ (rows_cons ⟨_, Try.func76, ok76, en76⟩ (rows_cons ⟨_, Try.func79, ok79, en79⟩ (rows_cons ⟨_, Try.func80, ok80, en80⟩ (rows_cons ⟨_, Try.func81, ok81, en81⟩ (rows_cons ⟨_, Try.func82, ok82, en82⟩ (rows_cons ⟨_, Try.func83, ok83, en83⟩ (rows_cons ⟨_, Try.func84, ok84, en84⟩ (rows_cons ⟨_, Try.func85, ok85, en85⟩ (rows_cons ⟨_, Try.func86, ok86, en86⟩ (rows_cons ⟨_, Try.func95, ok95, en95⟩ (rows_cons ⟨_, Try.func96, ok96, en96⟩ (rows_cons ⟨_, Try.func97, ok97, en97⟩ (rows_cons ⟨_, Try.func98, ok98, en98⟩ (rows_cons ⟨_, Try.func99, ok99, en99⟩ (rows_cons ⟨_, Try.func100, ok100, en100⟩ (rows_cons ⟨_, Try.func101, ok101, en101⟩ (rows_cons ⟨_, Try.func102, ok102, en102⟩ (rows_cons ⟨_, Try.func104, ok104, en104⟩ (rows_cons ⟨_, Try.func105, ok105, en105⟩ (rows_cons ⟨_, Try.func106, ok106, en106⟩ (rows_cons ⟨_, Try.func113, ok113, en113⟩ (rows_cons ⟨_, Try.func114, ok114, en114⟩ (rows_cons ⟨_, Try.func115, ok115, en115⟩ (rows_cons ⟨_, Try.func116, ok116, en116⟩ (rows_cons ⟨_, Try.func117, ok117, en117⟩ (rows_cons ⟨_, Try.func120, ok120, en120⟩ (rows_cons ⟨_, Try.func123, ok123, en123⟩ (rows_cons ⟨_, Try.func124, ok124, en124⟩ (rows_cons ⟨_, Try.func125, ok125, en125⟩ (rows_cons ⟨_, Try.func126, ok126, en126⟩ (rows_cons ⟨_, Try.func129, ok129, en129⟩ (rows_cons ⟨_, Try.func130, ok130, en130⟩ (rows_cons ⟨_, Try.func131, ok131, en131⟩ (rows_cons ⟨_, Try.func132, ok132, en132⟩ (rows_cons ⟨_, Try.func133, ok133, en133⟩ rows_nil)))))))))))))))))))))))))))))))))))))))))))))))))))
theorem all_nil : ∀ p, p ∈ ([] : List (Option V × Bool)) → p.1 = some (.bool p.2) := fun p h => by cases h
theorem awakeCD (h : List Ob) : CD Try.prog 43 [] h (.bool true) h :=
  ⟨en43, (CE.pure (R := fun u => u = V.bool true) ((ce_of_X rows noSums_ok awake0 all_nil).mono fun v h q => by
    rw [List.mem_singleton] at q; subst q; exact ⟨(rfl : V.bool true = .bool true), rfl⟩) rfl h).mono fun u h2 q => q⟩
def F43 (lf : Nat) (h : List Ob) : Option (V × List Ob) := some (.bool true, h)
def W43 (lf : Nat) : List V → List Ob → Option (V × List Ob) := fun vs h => castNil vs (F43 lf h)
theorem W43_ok (lf : Nat) : ∀ args h v h', W43 lf args h = some (v, h') → CD Go.Proofs.Try.prog 43 args h v h' := by
  intro vs h r h' e0
  simp only [W43] at e0
  obtain ⟨rfl, e1⟩ := castNil_inv e0
  simp only [F43, Option.some.injEq, Prod.mk.injEq] at e1
  obtain ⟨rfl, rfl⟩ := e1
  exact awakeCD h
end Go.Proofs.Ytbjphicipgneaaa.Aw
