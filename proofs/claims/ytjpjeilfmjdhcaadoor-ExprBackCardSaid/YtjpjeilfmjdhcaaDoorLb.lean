/- Two functions of the library by the kit's contracts: strconv.FormatInt in base 10, strings.ReplaceAll of one byte; what they ask of the world stands in the memory (pins). No condition. -/
import Derived.Test.YtjpjeilfmjdhcaaDoorProg
import Derived.Test.YtjpjeilfmjdhcaaDoorL4
import Derived.Shelf.Strings.Replace
import Derived.Shelf.Strconv.Itoa4
namespace Go.Proofs.YtjpjeilfmjdhcaaDoor.Lb
open Go Go.Proofs.YtjpjeilfmjdhcaaDoor.E
open Go.Proofs.YtjpjeilfmjdhcaaDoor.E.K
open Go.Shelf
open Go.RowKit
set_option maxRecDepth 100000
set_option linter.unusedVariables false
def lays155_ren:Go.Shelf.Ren := ⟨fun | 155 => 50 | 154 => 63 | 138 => 73 | 165 => 74 | 143 => 75 | 166 => 76 | 197 => 77 | 169 => 78 | 195 => 82 | 218 => 83 | 240 => 84 | 241 => 85 | 219 => 86 | 260 => 87 | 276 => 88 | 277 => 89 | 217 => 64 | 225 => 90 | 224 => 91 | 267 => 92 | 266 => 79 | 314 => 93 | n => n,fun | 9 => 9 | 3 => 3 | 4 => 4 | 72 => 105 | 0 => 0 | 76 => 109 | 105 => 111 | 21 => 21 | 5 => 5 | 70 => 103 | 20 => 20 | 37 => 76 | 75 => 108 | 127 => 114 | 164 => 117 | 46 => 100 | 119 => 120 | 139 => 123 | 138 => 122 | 146 => 124 | 51 => 97 | 80 => 92 | n => n,fun | 1 => 1 | 3 => 4 | 4 => 5 | n => n⟩
theorem lays155:Lays.n155 Tryd.prog lays155_ren := {
  mixed := by kernel_rfl
  f138 := Tryd.func73.trans (congrArg some (by kernel_rfl))
  f143 := Tryd.func75.trans (congrArg some (by kernel_rfl))
  f154 := Tryd.func63.trans (congrArg some (by kernel_rfl))
  f155 := Tryd.func50.trans (congrArg some (by kernel_rfl))
  f165 := Tryd.func74.trans (congrArg some (by kernel_rfl))
  f166 := Tryd.func76.trans (congrArg some (by kernel_rfl))
  f169 := Tryd.func78.trans (congrArg some (by kernel_rfl))
  f195 := Tryd.func82.trans (congrArg some (by kernel_rfl))
  f197 := Tryd.func77.trans (congrArg some (by kernel_rfl))
  f217 := Tryd.func64.trans (congrArg some (by kernel_rfl))
  f218 := Tryd.func83.trans (congrArg some (by kernel_rfl))
  f219 := Tryd.func86.trans (congrArg some (by kernel_rfl))
  f224 := Tryd.func91.trans (congrArg some (by kernel_rfl))
  f225 := Tryd.func90.trans (congrArg some (by kernel_rfl))
  f240 := Tryd.func84.trans (congrArg some (by kernel_rfl))
  f241 := Tryd.func85.trans (congrArg some (by kernel_rfl))
  f260 := Tryd.func87.trans (congrArg some (by kernel_rfl))
  f266 := Tryd.func79.trans (congrArg some (by kernel_rfl))
  f267 := Tryd.func92.trans (congrArg some (by kernel_rfl))
  f276 := Tryd.func88.trans (congrArg some (by kernel_rfl))
  f277 := Tryd.func89.trans (congrArg some (by kernel_rfl))
  f314 := Tryd.func93.trans (congrArg some (by kernel_rfl))
  t0 := Tryd.underlying0
  a0 := Tryd.isAgg0
  z0 := Tryd.sizeOf0
  v0 := Tryd.zeroValue0
  t3 := Tryd.underlying3
  a3 := Tryd.isAgg3
  z3 := Tryd.sizeOf3
  v3 := Tryd.zeroValue3
  t4 := Tryd.underlying4
  a4 := Tryd.isAgg4
  z4 := Tryd.sizeOf4
  v4 := Tryd.zeroValue4
  t5 := Tryd.underlying5
  a5 := Tryd.isAgg5
  z5 := Tryd.sizeOf5
  v5 := Tryd.zeroValue5
  t9 := Tryd.underlying9
  a9 := Tryd.isAgg9
  z9 := Tryd.sizeOf9
  v9 := Tryd.zeroValue9
  t20 := Tryd.underlying20
  a20 := Tryd.isAgg20
  z20 := Tryd.sizeOf20
  v20 := Tryd.zeroValue20
  t21 := Tryd.underlying21
  a21 := Tryd.isAgg21
  z21 := Tryd.sizeOf21
  v21 := Tryd.zeroValue21
  t37 := Tryd.underlying76
  a37 := Tryd.isAgg76
  z37 := Tryd.sizeOf76
  v37 := Tryd.zeroValue76
  t46 := Tryd.underlying100
  a46 := Tryd.isAgg100
  z46 := Tryd.sizeOf100
  v46 := Tryd.zeroValue100
  t51 := Tryd.underlying97
  a51 := Tryd.isAgg97
  z51 := Tryd.sizeOf97
  v51 := Tryd.zeroValue97
  t70 := Tryd.underlying103
  a70 := Tryd.isAgg103
  z70 := Tryd.sizeOf103
  v70 := Tryd.zeroValue103
  t72 := Tryd.underlying105
  a72 := Tryd.isAgg105
  z72 := Tryd.sizeOf105
  v72 := Tryd.zeroValue105
  t75 := Tryd.underlying108
  a75 := Tryd.isAgg108
  z75 := Tryd.sizeOf108
  v75 := Tryd.zeroValue108
  t76 := Tryd.underlying109
  a76 := Tryd.isAgg109
  z76 := Tryd.sizeOf109
  v76 := Tryd.zeroValue109
  t105 := Tryd.underlying111
  a105 := Tryd.isAgg111
  z105 := Tryd.sizeOf111
  v105 := Tryd.zeroValue111
  t119 := Tryd.underlying120
  a119 := Tryd.isAgg120
  z119 := Tryd.sizeOf120
  t127 := Tryd.underlying114
  a127 := Tryd.isAgg114
  z127 := Tryd.sizeOf114
  v127 := Tryd.zeroValue114
  t138 := Tryd.underlying122
  a138 := Tryd.isAgg122
  z138 := Tryd.sizeOf122
  v138 := Tryd.zeroValue122
  t139 := Tryd.underlying123
  a139 := Tryd.isAgg123
  z139 := Tryd.sizeOf123
  v139 := Tryd.zeroValue123
  t146 := Tryd.underlying124
  a146 := Tryd.isAgg124
  z146 := Tryd.sizeOf124
  v146 := Tryd.zeroValue124
  t164 := Tryd.underlying117
  a164 := Tryd.isAgg117
  z164 := Tryd.sizeOf117
  v164 := Tryd.zeroValue117
  g1 := by kernel_rfl
  g3 := by kernel_rfl
  g4 := by kernel_rfl }
def lays173_ren:Go.Shelf.Ren := ⟨fun | 173 => 29 | 246 => 49 | 283 => 59 | 284 => 60 | 285 => 61 | 286 => 62 | 129 => 69 | 317 => 68 | 318 => 70 | 319 => 71 | 320 => 72 | 337 => 80 | 338 => 81 | n => n,fun | 2 => 2 | 3 => 3 | 9 => 9 | 4 => 4 | 171 => 86 | 0 => 0 | 53 => 77 | 37 => 76 | 5 => 5 | 173 => 89 | 212 => 96 | 51 => 97 | 20 => 20 | 213 => 98 | 46 => 100 | 232 => 115 | 233 => 116 | n => n,fun | 17 => 0 | 18 => 2 | 19 => 3 | n => n⟩
theorem lays173:LaysM.n173 Tryd.prog lays173_ren := {
  mixed := by kernel_rfl
  f129 := Tryd.func69.trans (congrArg some (by kernel_rfl))
  f173 := Tryd.func29.trans (congrArg some (by kernel_rfl))
  f246 := Tryd.func49.trans (congrArg some (by kernel_rfl))
  f283 := Tryd.func59.trans (congrArg some (by kernel_rfl))
  f284 := Tryd.func60.trans (congrArg some (by kernel_rfl))
  f285 := Tryd.func61.trans (congrArg some (by kernel_rfl))
  f286 := Tryd.func62.trans (congrArg some (by kernel_rfl))
  f317 := Tryd.func68.trans (congrArg some (by kernel_rfl))
  f318 := Tryd.func70.trans (congrArg some (by kernel_rfl))
  f319 := Tryd.func71.trans (congrArg some (by kernel_rfl))
  f320 := Tryd.func72.trans (congrArg some (by kernel_rfl))
  f337 := Tryd.func80.trans (congrArg some (by kernel_rfl))
  f338 := Tryd.func81.trans (congrArg some (by kernel_rfl))
  t0 := Tryd.underlying0
  a0 := Tryd.isAgg0
  z0 := Tryd.sizeOf0
  v0 := Tryd.zeroValue0
  t2 := Tryd.underlying2
  a2 := Tryd.isAgg2
  z2 := Tryd.sizeOf2
  v2 := Tryd.zeroValue2
  t3 := Tryd.underlying3
  a3 := Tryd.isAgg3
  z3 := Tryd.sizeOf3
  v3 := Tryd.zeroValue3
  t4 := Tryd.underlying4
  a4 := Tryd.isAgg4
  z4 := Tryd.sizeOf4
  v4 := Tryd.zeroValue4
  t5 := Tryd.underlying5
  a5 := Tryd.isAgg5
  z5 := Tryd.sizeOf5
  v5 := Tryd.zeroValue5
  t9 := Tryd.underlying9
  a9 := Tryd.isAgg9
  z9 := Tryd.sizeOf9
  v9 := Tryd.zeroValue9
  t20 := Tryd.underlying20
  a20 := Tryd.isAgg20
  z20 := Tryd.sizeOf20
  v20 := Tryd.zeroValue20
  t37 := Tryd.underlying76
  a37 := Tryd.isAgg76
  z37 := Tryd.sizeOf76
  v37 := Tryd.zeroValue76
  t46 := Tryd.underlying100
  a46 := Tryd.isAgg100
  z46 := Tryd.sizeOf100
  v46 := Tryd.zeroValue100
  t51 := Tryd.underlying97
  a51 := Tryd.isAgg97
  z51 := Tryd.sizeOf97
  v51 := Tryd.zeroValue97
  t53 := Tryd.underlying77
  a53 := Tryd.isAgg77
  z53 := Tryd.sizeOf77
  v53 := Tryd.zeroValue77
  t171 := Tryd.underlying86
  a171 := Tryd.isAgg86
  z171 := Tryd.sizeOf86
  v171 := Tryd.zeroValue86
  t173 := Tryd.underlying89
  a173 := Tryd.isAgg89
  z173 := Tryd.sizeOf89
  v173 := Tryd.zeroValue89
  t212 := Tryd.underlying96
  a212 := Tryd.isAgg96
  z212 := Tryd.sizeOf96
  v212 := Tryd.zeroValue96
  t213 := Tryd.underlying98
  a213 := Tryd.isAgg98
  z213 := Tryd.sizeOf98
  t232 := Tryd.underlying115
  a232 := Tryd.isAgg115
  z232 := Tryd.sizeOf115
  v232 := Tryd.zeroValue115
  t233 := Tryd.underlying116
  a233 := Tryd.isAgg116
  z233 := Tryd.sizeOf116
  v233 := Tryd.zeroValue116
  g17 := by kernel_rfl
  g18 := by kernel_rfl
  g19 := by kernel_rfl
  i0 := by kernel_rfl
  i2 := by kernel_rfl
  i3 := by kernel_rfl
  i4 := by kernel_rfl
  i5 := by kernel_rfl
  i9 := by kernel_rfl
  i20 := by kernel_rfl
  i37 := by kernel_rfl
  i46 := by kernel_rfl
  i51 := by kernel_rfl
  i53 := by kernel_rfl
  i171 := by kernel_rfl
  i173 := by kernel_rfl
  i212 := by kernel_rfl
  i232 := by kernel_rfl
  i233 := by kernel_rfl
  m17 := by kernel_rfl
  m18 := by kernel_rfl
  m19 := by kernel_rfl }
theorem extra155:Builder.Extra Tryd.prog lays155_ren := {
  sizeBuilder := by kernel_rfl
  liesBuilder := by kernel_rfl
  t5 := lays155.t5
  a5 := lays155.a5
  z5 := lays155.z5
  v5 := lays155.v5
  infoByte := by kernel_rfl
  cellsByte := by kernel_rfl
  sizeByte := by kernel_rfl
  neB5 := by decide }
abbrev pinT (e:TypeId):Ob := .pin 0 .u64 Lib.pow10Tab e
abbrev pinM (m:Int) (e:TypeId):Ob := .pin 1 .i64 [m] e
open Classical in
noncomputable def F29 (lf:Nat) (n:Int) (base:Int) (h:List Ob):Option (V × List Ob) :=
  if base = 10 ∧ -9223372036854775808 ≤ n ∧ n ≤ 9223372036854775807 ∧ (∃ e,h[0]? = some (pinT e)) then some (.str (Lib.itoa n),h) else none
noncomputable def W29 (lf:Nat):List V → List Ob → Option (V × List Ob) := wG [Si,Si] (F29 lf)
theorem below_grow (w:World) (k:Nat) (os:Array Obj):Below w.heap.size w (Sort.grow (w.drewN k) os) := ⟨rfl,rfl,rfl,by show w.heap.size ≤ (w.heap ++ os).size; simp,fun j hj => by
  show (w.heap ++ os)[j]? = _
  rw [Array.getElem?_append_left hj]⟩
theorem ce29 {n:Int} {h:List Ob} (h0 : -9223372036854775808 ≤ n) (h1:n ≤ 9223372036854775807) {e:TypeId} (hp:h[0]? = some (pinT e)):CE Tryd.prog 29 [.int .i64 n,.int .i64 10] h fun v h' => v = .str (Lib.itoa n) ∧ h' = h := by
  refine ce_of_below fun L w xs a H => ?_
  obtain ⟨x,y,rfl,r1,r2⟩ := arep2 a
  cases r1; cases r2
  obtain ⟨base,sz,-,hb⟩ := H.obs 0 _ hp
  have ht : Lib.TabIs Tryd.prog w "internal/strconv.uint64pow10" .u64 Lib.pow10Tab := by
    unfold Lib.TabIs World.var?
    rw [show Tryd.prog.globalNamed "internal/strconv.uint64pow10" = some 0 by kernel_rfl]
    show (match w.heap[0]? with | some (.cells cs _ _) => some cs | _ => none) = _
    rw [hb]
  refine (Any.strconv_FormatInt_10 lays173 n h0 h1 w ht).mono ?_
  rintro e w' ⟨rfl,k,os,rfl⟩
  exact ⟨rfl,below_grow w k os⟩
theorem W29_ok (lf:Nat):WOk Tryd.prog 29 (W29 lf) := by
  intro args h v h' e
  obtain ⟨g,p,e2⟩ := wG_inv (ts := [Si,Si]) (f := F29 lf) (P := fun vs g => ∃ n b,vs = [.int .i64 n,.int .i64 b] ∧ g = F29 lf n b) (show AllL [Si,Si] _ _ (F29 lf) from fun n b => ⟨n,b,rfl,rfl⟩) e
  obtain ⟨n,b,rfl,rfl⟩ := p
  unfold F29 at e2
  split at e2
  · rename_i q
    obtain ⟨rfl,q1,q2,te,q3⟩ := q
    injection e2 with e2
    injection e2 with e3 e4
    subst e3; subst e4
    exact ⟨by kernel_rfl,ce29 q1 q2 q3⟩
  · cases e2
open Classical in
noncomputable def F50 (lf:Nat) (s old new:List UInt8) (h:List Ob):Option (V × List Ob) :=
  if old = [39] ∧ new = [39,39] ∧ s.length ≤ 1000000 ∧ ∃ m e,h[1]? = some (pinM m e) then some (.str (Lib.replaceAll s old new),h) else none
noncomputable def W50 (lf:Nat):List V → List Ob → Option (V × List Ob) := wG [Ss,Ss,Ss] (F50 lf)
theorem ce50 {s:List UInt8} {m:Int} {e:TypeId} {h:List Ob} (hs:s.length ≤ 1000000) (hp:h[1]? = some (pinM m e)):CE Tryd.prog 50 [.str s,.str [39],.str [39,39]] h fun v h' => v = .str (Lib.replaceAll s [39] [39,39]) ∧ h' = h := by
  refine ce_of_below fun L w xs a H => ?_
  obtain ⟨x,y,z,rfl,r1,r2,r3⟩ := arep3 a
  cases r1; cases r2; cases r3
  obtain ⟨base,sz,-,hb⟩ := H.obs 1 _ hp
  have hm:w.cell? ⟨(lays155_ren.g 1),0,none⟩ = some (.int .i64 m) := by
    show w.cell? ⟨1,0,none⟩ = _
    simp [World.cell?,hb]
  have hsz:(⟨s.toArray⟩:ByteArray).size = s.length := by simp [ByteArray.size]
  have hc := Lib.countB_mul_le ⟨#[39]⟩ (by decide) s.length ⟨s.toArray⟩ (by omega)
  have h39:(⟨#[39]⟩:ByteArray).size = 1 := rfl
  have h39':(⟨#[39,39]⟩:ByteArray).size = 2 := rfl
  have c := Any.strings_ReplaceAll lays155 extra155 ⟨s.toArray⟩ ⟨#[39]⟩ ⟨#[39,39]⟩ m w (by omega) hm (by decide) (by rw [h39']; rw [h39] at hc; omega)
  exact c
theorem W50_ok (lf:Nat):WOk Tryd.prog 50 (W50 lf) := by
  intro args h v h' e
  obtain ⟨g,p,e2⟩ := wG_inv (ts := [Ss,Ss,Ss]) (f := F50 lf) (P := fun vs g => ∃ s o n,vs = [.str s,.str o,.str n] ∧ g = F50 lf s o n) (show AllL [Ss,Ss,Ss] _ _ (F50 lf) from fun s o n => ⟨s,o,n,rfl,rfl⟩) e
  obtain ⟨s,o,n,rfl,rfl⟩ := p
  unfold F50 at e2
  split at e2
  · rename_i q
    obtain ⟨rfl,rfl,q1,m,te,q2⟩ := q
    injection e2 with e2
    injection e2 with e3 e4
    subst e3; subst e4
    exact ⟨by kernel_rfl,ce50 q1 q2⟩
  · cases e2
end Go.Proofs.YtjpjeilfmjdhcaaDoor.Lb
