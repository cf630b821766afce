/- The code of functions, in the layer E. Printed by my own tool. No condition. -/
import Derived.Test.YtdcdmpgigmhhpaaNd
namespace Go.Proofs.Ytdcdmpgigmhhpaa.Nf
open Go Go.Proofs.Ytdcdmpgigmhhpaa.E
open Go.Proofs.Ytdcdmpgigmhhpaa.Nd
open Go.Proofs.Ytdcdmpgigmhhpaa.Va
set_option maxRecDepth 100000

def c8 : EFn := ⟨37, [(.t 4)], (.seq (.reg [⟨(some 2), none, (.op (.box false (.t 0))), []⟩, ⟨(some 4), none, (.op (.mv (.c (.bool false)))), []⟩]) (.seq (.seq (.reg [⟨(some 9), none, (.call 32 []), []⟩, ⟨(some 10), none, (.op (.un .not (.t 9))), []⟩, ⟨(some 11), none, (.op (.mv (.t 10))), []⟩, ⟨(some 12), (some (11, false)), (.op (.loadN 4 (.t 2))), []⟩, ⟨(some 13), (some (11, false)), (.call 33 [(.t 12)]), []⟩, ⟨(some 14), (some (11, false)), (.op (.un .not (.t 13))), []⟩, ⟨(some 15), none, (.op (.pick (.t 11) (.c (.bool true)) (.t 14))), []⟩]) (.cond (.t 15) (.seq (.reg [⟨(some 16), none, (.call 32 []), []⟩, ⟨(some 4), none, (.op (.mv (.t 16))), []⟩]) .ret) .skip)) (.seq (.reg [⟨(some 18), none, (.op (.loadN 4 (.t 2))), []⟩, ⟨(some 19), none, (.op (.mv (.t 1))), []⟩, ⟨(some 20), none, (.call 34 [(.t 18), (.t 19)]), []⟩, ⟨(some 17), none, (.op (.mv (.t 20))), []⟩, ⟨(some 21), none, (.op (.ext 0 (.t 17))), []⟩, ⟨(some 22), none, (.op (.ext 1 (.t 17))), []⟩, ⟨(some 5), none, (.op (.mv (.t 21))), []⟩, ⟨(some 6), none, (.op (.mv (.t 22))), []⟩]) (.seq (.reg [⟨(some 24), none, (.op (.loadN 4 (.t 2))), []⟩, ⟨(some 25), none, (.op (.mv (.t 1))), []⟩, ⟨(some 26), none, (.call 35 [(.t 24), (.t 25)]), []⟩, ⟨(some 23), none, (.op (.mv (.t 26))), []⟩, ⟨(some 27), none, (.op (.ext 0 (.t 23))), []⟩, ⟨(some 28), none, (.op (.ext 1 (.t 23))), []⟩, ⟨(some 7), none, (.op (.mv (.t 27))), []⟩, ⟨(some 8), none, (.op (.mv (.t 28))), []⟩]) (.seq (.reg [⟨(some 29), none, (.op (.mv (.t 5))), []⟩, ⟨(some 30), none, (.op (.mv (.t 7))), []⟩, ⟨(some 31), none, (.op (.bin .eql (.t 29) (.t 30))), []⟩, ⟨(some 32), none, (.op (.mv (.t 31))), []⟩, ⟨(some 33), (some (32, true)), (.op (.mv (.t 6))), []⟩, ⟨(some 34), (some (32, true)), (.op (.mv (.t 8))), []⟩, ⟨(some 35), (some (32, true)), (.op (.eq false .bool (.t 33) (.t 34))), []⟩, ⟨(some 36), none, (.op (.pick (.t 32) (.t 35) (.c (.bool false)))), []⟩, ⟨(some 4), none, (.op (.mv (.t 36))), []⟩]) .ret)))))⟩
theorem ok8 : compF Go.Proofs.Try.prog Go.Proofs.Try.f8 = some c8 := by kernel_rfl
theorem en8 : entersB Go.Proofs.Try.prog 8 = true := by kernel_rfl

def tabL : List (Nat × EFn) := [(8, c8)]
end Go.Proofs.Ytdcdmpgigmhhpaa.Nf
