/- The reader of statements, as plain functions: what is read of words, and of a text. No condition. -/
import Derived.Test.YtjpjeilfmjdhcaaPrU
namespace Go.Proofs.Ytjpjeilfmjdhcaa.Pr
open Go Go.Proofs.Ytjpjeilfmjdhcaa.E
open Go.Proofs.Ytjpjeilfmjdhcaa.Ln
open Go.Proofs.Ytjpjeilfmjdhcaa.Ex
set_option maxRecDepth 100000
set_option linter.unusedVariables false
set_option linter.unusedSimpArgs false
structure Cl where
  n:List UInt8
  k:Int
  nn:Bool
  un:Bool
deriving DecidableEq
structure It where
  e:X
  n:List UInt8
structure Sr where
  t:List UInt8
  n:List UInt8
  on:X
structure Od where
  e:X
  d:Bool
structure Asg where
  c:List UInt8
  e:X
structure Qy where
  dis:Bool
  star:Bool
  items:List It
  srcs:List Sr
  wh:List X
  gr:List X
  od:List Od
  lim:Int
structure Sm where
  k:Int
  name:List UInt8
  on:List UInt8
  un:Bool
  cols:List Cl
  keys:List (List UInt8)
  rows:List (List X)
  sets:List Asg
  wh:List X
  q:Qy
def zQ:Qy := ⟨false,false,[],[],[],[],[],0⟩
def zS:Sm := ⟨0,[],[],false,[],[],[],[],[],zQ⟩
def exprP (ws:List Wd) (s:RS):X × RS :=
  let r := binP ws (10 * ws.length + 10) 0 s
  if r.2.e = 0 ∧ frmB 8 r.1 = false then (r.1,⟨r.2.i,4⟩) else r
def moreP {α : Type} (ws:List Wd) (m:PM α):Nat → List α → PM (List α)
  | 0,acc,s => (acc,s)
  | f + 1,acc,s => if (haveP ws [44] s).1 = true then moreP ws m f (acc ++ [(m (haveP ws [44] s).2).1]) (m (haveP ws [44] s).2).2 else (acc,(haveP ws [44] s).2)
def listP {α : Type} (ws:List Wd) (m:PM α) (s:RS):List α × RS := moreP ws m (ws.length + 1) [(m s).1] (m s).2
def groupP {α : Type} (ws:List Wd) (m:PM α) (s:RS):List α × RS :=
  let l := listP ws m (wantP ws [[40]] s)
  (l.1,wantP ws [[41]] l.2)
def kindP (ws:List Wd) (s:RS):Int × RS :=
  let a := haveP ws [73,78,84] s
  if a.1 = true then (1,a.2) else
  let b := haveP ws [84,69,88,84] a.2
  if b.1 = true then (2,b.2) else (0,failP b.2)
def columnP (ws:List Wd) (s:RS):Cl × RS :=
  let n := nameR ws s
  let k := kindP ws n.2
  let c := haveP ws [78,79,84] k.2
  let s3 := if c.1 = true then wantP ws [[78,85,76,76]] c.2 else c.2
  let d := haveP ws [85,78,73,81,85,69] s3
  (⟨n.1,k.1,c.1,d.1⟩,d.2)
def whereP (ws:List Wd) (s:RS):List X × RS :=
  let h := haveP ws [87,72,69,82,69] s
  if h.1 = true then ([(exprP ws h.2).1],(exprP ws h.2).2) else ([],h.2)
def asP (ws:List Wd) (n:List UInt8) (s:RS):List UInt8 × RS :=
  let h := haveP ws [65,83] s
  if h.1 = true then nameR ws h.2 else (n,h.2)
def sourceP (ws:List Wd) (s:RS):Sr × RS :=
  let n := nameR ws s
  let a := asP ws n.1 n.2
  (⟨n.1,a.1,zX⟩,a.2)
def itemP (ws:List Wd) (s:RS):It × RS :=
  let e := exprP ws s
  let a := asP ws [] e.2
  (⟨e.1,a.1⟩,a.2)
def orderP (ws:List Wd) (s:RS):Od × RS :=
  let e := exprP ws s
  let a := haveP ws [65,83,67] e.2
  if a.1 = true then (⟨e.1,false⟩,a.2) else (⟨e.1,(haveP ws [68,69,83,67] a.2).1⟩,(haveP ws [68,69,83,67] a.2).2)
def joinP (ws:List Wd) (s:RS):Sr × RS :=
  let r := sourceP ws s
  let e := exprP ws (wantP ws [[79,78]] r.2)
  (⟨r.1.t,r.1.n,e.1⟩,e.2)
def joinsP (ws:List Wd):Nat → List Sr → PM (List Sr)
  | 0,acc,s => (acc,s)
  | f + 1,acc,s => if (haveP ws [74,79,73,78] s).1 = true then joinsP ws f (acc ++ [(joinP ws (haveP ws [74,79,73,78] s).2).1]) (joinP ws (haveP ws [74,79,73,78] s).2).2 else (acc,(haveP ws [74,79,73,78] s).2)
def groupByP (ws:List Wd) (s:RS):List X × RS :=
  let h := haveP ws [71,82,79,85,80] s
  if h.1 = true then listP ws (exprP ws) (wantP ws [[66,89]] h.2) else ([],h.2)
def orderByP (ws:List Wd) (s:RS):List Od × RS :=
  let h := haveP ws [79,82,68,69,82] s
  if h.1 = true then listP ws (orderP ws) (wantP ws [[66,89]] h.2) else ([],h.2)
def limitP (ws:List Wd) (s:RS):Int × RS :=
  let h := haveP ws [76,73,77,73,84] s
  if h.1 = true then numR ws h.2 else (-1,h.2)
def itemsP (ws:List Wd) (star:Bool) (s:RS):List It × RS := if star = true then ([],s) else listP ws (itemP ws) s
def queryP (ws:List Wd) (s:RS):Qy × RS :=
  let a := haveP ws [68,73,83,84,73,78,67,84] s
  let b := haveP ws [42] a.2
  let l := itemsP ws b.1 b.2
  let o := sourceP ws (wantP ws [[70,82,79,77]] l.2)
  let j := joinsP ws (ws.length + 1) [o.1] o.2
  let w := whereP ws j.2
  let g := groupByP ws w.2
  let d := orderByP ws g.2
  let m := limitP ws d.2
  (⟨a.1,b.1,l.1,j.1,w.1,g.1,d.1,m.1⟩,m.2)
def createP (ws:List Wd) (s:RS):Sm × RS :=
  let a := haveP ws [84,65,66,76,69] s
  if a.1 = true then
    let n := nameR ws a.2
    let c := groupP ws (columnP ws) n.2
    ({ zS with k := 1,name := n.1,cols := c.1 },c.2)
  else
  let b := haveP ws [77,65,84,69,82,73,65,76,73,90,69,68] a.2
  if b.1 = true then
    let n := nameR ws (wantP ws [[86,73,69,87]] b.2)
    let q := queryP ws (wantP ws [[65,83],[83,69,76,69,67,84]] n.2)
    ({ zS with k := 3,name := n.1,q := q.1 },q.2)
  else
  let u := haveP ws [85,78,73,81,85,69] b.2
  let n := nameR ws (wantP ws [[73,78,68,69,88]] u.2)
  let o := nameR ws (wantP ws [[79,78]] n.2)
  let g := groupP ws (nameR ws) o.2
  ({ zS with k := 2,un := u.1,name := n.1,on := o.1,keys := g.1 },g.2)
def dropP (ws:List Wd) (s:RS):Sm × RS :=
  let a := haveP ws [84,65,66,76,69] s
  if a.1 = true then ({ zS with k := 4,name := (nameR ws a.2).1 },(nameR ws a.2).2) else
  let b := haveP ws [73,78,68,69,88] a.2
  if b.1 = true then ({ zS with k := 5,name := (nameR ws b.2).1 },(nameR ws b.2).2) else
  let n := nameR ws (wantP ws [[86,73,69,87]] b.2)
  ({ zS with k := 6,name := n.1 },n.2)
def insertP (ws:List Wd) (s:RS):Sm × RS :=
  let n := nameR ws (wantP ws [[73,78,84,79]] s)
  let l := listP ws (groupP ws (exprP ws)) (wantP ws [[86,65,76,85,69,83]] n.2)
  ({ zS with k := 7,name := n.1,rows := l.1 },l.2)
def assignP (ws:List Wd) (s:RS):Asg × RS :=
  let n := nameR ws s
  let e := exprP ws (wantP ws [[61]] n.2)
  (⟨n.1,e.1⟩,e.2)
def updateP (ws:List Wd) (s:RS):Sm × RS :=
  let n := nameR ws s
  let l := listP ws (assignP ws) (wantP ws [[83,69,84]] n.2)
  let w := whereP ws l.2
  ({ zS with k := 8,name := n.1,sets := l.1,wh := w.1 },w.2)
def removeP (ws:List Wd) (s:RS):Sm × RS :=
  let n := nameR ws (wantP ws [[70,82,79,77]] s)
  let w := whereP ws n.2
  ({ zS with k := 9,name := n.1,wh := w.1 },w.2)
def lastP (ws:List Wd) (s:RS):Sm × RS :=
  let a := haveP ws [66,69,71,73,78] s
  if a.1 = true then ({ zS with k := 11 },a.2) else
  let b := haveP ws [67,79,77,77,73,84] a.2
  if b.1 = true then ({ zS with k := 12 },b.2) else
  let c := haveP ws [82,79,76,76,66,65,67,75] b.2
  if c.1 = true then ({ zS with k := 13 },c.2) else (zS,failP c.2)
def statementP (ws:List Wd) (s:RS):Sm × RS :=
  let a := haveP ws [67,82,69,65,84,69] s
  if a.1 = true then createP ws a.2 else
  let b := haveP ws [68,82,79,80] a.2
  if b.1 = true then dropP ws b.2 else
  let c := haveP ws [73,78,83,69,82,84] b.2
  if c.1 = true then insertP ws c.2 else
  let d := haveP ws [85,80,68,65,84,69] c.2
  if d.1 = true then updateP ws d.2 else
  let e := haveP ws [68,69,76,69,84,69] d.2
  if e.1 = true then removeP ws e.2 else
  let f := haveP ws [83,69,76,69,67,84] e.2
  if f.1 = true then ({ zS with k := 10,q := (queryP ws f.2).1 },(queryP ws f.2).2) else
  lastP ws f.2
def longP (s:Sm):Bool :=
  decide (8 < s.cols.length) || decide (8 < s.keys.length) || decide (8 < s.sets.length) || decide (8 < s.q.items.length) || decide (8 < s.q.gr.length) || decide (8 < s.q.od.length) || s.rows.any (fun r => decide (8 < r.length)) || decide (10 < s.rows.length) || decide (3 < s.q.srcs.length)
def endP (ws:List Wd) (s:RS):RS :=
  let h := haveP ws [59] s
  if h.2.i = ws.length then h.2 else failP h.2
def readW (ws:List Wd):Sm × Int :=
  let r := statementP ws ⟨0,0⟩
  let s := endP ws r.2
  if s.e ≠ 0 then (zS,s.e) else if longP r.1 = true then (zS,5) else (r.1,0)
def readP (t:List UInt8):Sm × Int := match wordsP t with
  | (some ws,_) => readW ws
  | (none,e) => (zS,e)
end Go.Proofs.Ytjpjeilfmjdhcaa.Pr
