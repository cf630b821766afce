/- The reader of statements, as plain functions: what is read of words, and of a text. No condition. -/
import Derived.Test.YtjpjeilfmjdhcaaDoorPrU
namespace Go.Proofs.YtjpjeilfmjdhcaaDoor.Pr
open Go Go.Proofs.YtjpjeilfmjdhcaaDoor.E
open Go.Proofs.YtjpjeilfmjdhcaaDoor.Ln
open Go.Proofs.YtjpjeilfmjdhcaaDoor.Ex
set_option maxRecDepth 100000
set_option linter.unusedVariables false
set_option linter.unusedSimpArgs false
structure Cl where
  n:List UInt8
  k:Int
  nn:Bool
  un:Bool
deriving DecidableEq
structure It where
  e:X
  n:List UInt8
structure Sr where
  t:List UInt8
  n:List UInt8
  on:X
structure Od where
  e:X
  d:Bool
structure Asg where
  c:List UInt8
  e:X
structure Qy where
  dis:Bool
  star:Bool
  items:List It
  srcs:List Sr
  wh:List X
  gr:List X
  od:List Od
  lim:Int
structure Sm where
  k:Int
  name:List UInt8
  on:List UInt8
  un:Bool
  cols:List Cl
  keys:List (List UInt8)
  rows:List (List X)
  sets:List Asg
  wh:List X
  q:Qy
def exprP (ws:List Wd) (s:RS):X × RS :=
  let r := binP ws (10 * ws.length + 10) 0 s
  if r.2.e = 0 ∧ frmB 8 r.1 = false then (r.1,⟨r.2.i,4⟩) else r
end Go.Proofs.YtjpjeilfmjdhcaaDoor.Pr
