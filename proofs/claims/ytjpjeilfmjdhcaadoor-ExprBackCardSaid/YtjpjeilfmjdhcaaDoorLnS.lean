/- LexerNames: keywords; the law's answer for every input. No condition. -/
import Derived.Test.YtjpjeilfmjdhcaaDoorLnR
import Derived.Test.YtjpjeilfmjdhcaaDoorL4
import Derived.SizedLaws
namespace Go.Proofs.YtjpjeilfmjdhcaaDoor.Ln
open Go Go.Proofs.YtjpjeilfmjdhcaaDoor.E
set_option maxRecDepth 100000
set_option linter.unusedVariables false
set_option linter.unusedSimpArgs false
def kwWords:List (List UInt8) := [[67,82,69,65,84,69],[84,65,66,76,69],[73,78,68,69,88],[85,78,73,81,85,69],[77,65,84,69,82,73,65,76,73,90,69,68],[86,73,69,87],[68,82,79,80],[73,78,83,69,82,84],[73,78,84,79],[86,65,76,85,69,83],[85,80,68,65,84,69],[83,69,84],[68,69,76,69,84,69],[70,82,79,77],[83,69,76,69,67,84],[68,73,83,84,73,78,67,84],[87,72,69,82,69],[71,82,79,85,80],[66,89],[79,82,68,69,82],[65,83,67],[68,69,83,67],[76,73,77,73,84],[74,79,73,78],[79,78],[65,83],[65,78,68],[79,82],[78,79,84],[73,83],[78,85,76,76],[73,78,84],[84,69,88,84],[66,69,71,73,78],[67,79,77,77,73,84],[82,79,76,76,66,65,67,75],[67,79,85,78,84],[83,85,77],[77,73,78],[77,65,88]]
def kwP (s:List UInt8):Bool := kwWords.any fun w => s == w
theorem orB (b c:Bool) (h:List Ob):cB b (some (EX.normal,[V.bool true],h)) (some (EX.normal,[V.bool c],h)) = (some (EX.normal,[V.bool (b || c)],h):SubR) := by cases b <;> rfl
theorem kw26 (lf:Nat) (s:List UInt8) (h:List Ob):F54 lf s h = some (.bool (kwP s),h) := by
  have e:S54_0 lf s h = some (.normal,[.bool (kwP s)],h) := by
    unfold S54_0
    simp only [orB]
    simp only [kwP,kwWords,List.any_cons,List.any_nil,Bool.or_false]
  unfold F54
  rw [e]
  simp only [bind3_some,decide_true,cB_true,castCons_cons,castBool_bool,castNil_nil]
  cases kwP s <;> rfl
/-! ### Words among blanks -/
end Go.Proofs.YtjpjeilfmjdhcaaDoor.Ln
