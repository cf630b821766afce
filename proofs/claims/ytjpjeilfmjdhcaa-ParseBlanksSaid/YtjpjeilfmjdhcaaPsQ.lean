/- The reader of statements walked: is a statement too long; a text's statement. No condition. -/
import Derived.Test.YtjpjeilfmjdhcaaPss
import Derived.Test.YtjpjeilfmjdhcaaStY
import Derived.Test.YtjpjeilfmjdhcaaPsP
namespace Go.Proofs.Ytjpjeilfmjdhcaa.Ps
open Go Go.Proofs.Ytjpjeilfmjdhcaa.E
open Go.Proofs.Ytjpjeilfmjdhcaa.Ln
open Go.Proofs.Ytjpjeilfmjdhcaa.Ex
open Go.Proofs.Ytjpjeilfmjdhcaa.Pr
open Go.Proofs.Ytjpjeilfmjdhcaa.Rd
open Go.Proofs.Ytjpjeilfmjdhcaa.St
set_option maxRecDepth 100000
set_option linter.unusedVariables false
set_option linter.unusedSimpArgs false
theorem LR.len {α : Type} {sz:Nat} {T:RR α} {I:Nat → Prop} {h:List Ob} {v:V} {xs:List α} (l:LR sz T I h v xs):er (.lenL (.c v)) h = some (.int .i64 xs.length) := by
  obtain ⟨es,s,-,-,hl,-⟩ := l
  rw [er_lenL s,hl]
theorem mx_gt (a b:Int):decide (mx2 a b > 8) = (decide (a > 8) || decide (b > 8)) := by
  unfold mx2
  by_cases h:b > a
  · rw [if_pos h]
    by_cases h1:b > 8
    · rw [decide_eq_true h1,Bool.or_true]
    · rw [decide_eq_false h1,decide_eq_false (by omega)]; rfl
  · rw [if_neg h]
    by_cases h1:a > 8
    · rw [decide_eq_true h1,Bool.true_or]
    · rw [decide_eq_false h1,decide_eq_false (by omega)]; rfl
theorem nat_gt (n:Nat) (k:Nat):decide ((n:Int) > (k:Int)) = decide (k < n) := by
  by_cases h:k < n
  · rw [decide_eq_true h,decide_eq_true (by omega)]
  · rw [decide_eq_false h,decide_eq_false (by omega)]
theorem long14L (lf:Nat) {I:Nat → Prop} {h:List Ob} {rv:V} {rows:List (List X)} (L:LR 1 (rL 8 rEx) I h rv rows) (hl:rows.length ≤ 1000000000):∀ (m k f:Nat) (most:Int),rows.length = k + m → m < f →
    ∃ R:Int,L14_0 lf f most rv rows.length k h = some (.exit 0,[.int .i64 R],h) ∧ decide (R > 8) = (decide (most > 8) || (rows.drop k).any fun r => decide (8 < r.length)) := by
  intro m
  induction m with
  | zero =>
    intro k f most hk hf
    obtain ⟨f,rfl⟩:∃ g,f = g + 1 := ⟨f - 1,by omega⟩
    have hd:decide ((k:Int) < (rows.length:Int)) = false := decide_eq_false (by omega)
    simp only [L14_0,B14_0,hd,cB_false]
    exact ⟨most,rfl,by rw [List.drop_of_length_le (by omega)]; simp⟩
  | succ m ih =>
    intro k f most hk hf
    obtain ⟨f,rfl⟩:∃ g,f = g + 1 := ⟨f - 1,by omega⟩
    have hlt:k < rows.length := by omega
    have hd:decide ((k:Int) < (rows.length:Int)) = true := decide_eq_true (by omega)
    have hw:IntKind.i64.wrap ((k:Int) + 1) = ((k + 1:Nat):Int) := by rw [wrap_i64 (by omega) (by omega)]; simp
    obtain ⟨es,s,-,-,hle,he⟩ := L
    have hke:k < es.length := by omega
    have t := he k es[k] rows[k] (List.getElem?_eq_getElem hke) (List.getElem?_eq_getElem hlt)
    have tl:er (.lenL (.c es[k])) h = some (.int .i64 (rows[k].length:Int)) := LR.len t
    obtain ⟨a,a1,a2⟩ := s.at1 (k := (k:Int)) (e := es[k]) (by omega) (by simp [hke]) (LR.sc t).1
    simp only [L14_0,B14_0,hd,cB_true,a1,a2,bind1_some,tl,castInt_int,hw]
    obtain ⟨R,e1,e2⟩ := ih (k + 1) f (if (rows[k].length:Int) > most then (rows[k].length:Int) else most) (by omega) (by omega)
    refine ⟨R,e1,?_⟩
    rw [e2,List.drop_eq_getElem_cons hlt,List.any_cons]
    have := mx_gt most (rows[k].length:Int)
    unfold mx2 at this
    rw [this,show ((8:Int)) = ((8:Nat):Int) from rfl,nat_gt,Bool.or_assoc]
theorem long14 {lf:Nat} {I:Nat → Prop} {h:List Ob} {v:V} {m:Sm} (t:rM.R I h v m) (hr:m.rows.length ≤ 1000000) (hf:1000000 < lf):To2 (F14 lf v h) fun b h' => b = .bool (longP m) ∧ Kp h h' [] := by
  obtain ⟨c1,c2,c3,c4,c5,a,b,c,d,e,rfl,u1,u2,u3,u4,u5,t1,t2,t3,t4,t5⟩ := t
  simp only [F14]
  refine To2.bind2 (box_to (cs := aM m.k m.name m.on m.un c1 c2 c3 c4 c5 m.q.dis m.q.star a b c d e m.q.lim) (aM_sc (LR.sc u1).2 (LR.sc u2).2 (LR.sc u3).2 (LR.sc u4).2 (LR.sc u5).2 (LR.sc t1).2 (LR.sc t2).2 (LR.sc t3).2 (LR.sc t4).2 (LR.sc t5).2)) ?_
  rintro s1 h1 ⟨rfl,ss,k1⟩
  have ld:er (.loadN 8 (.c (.ptr h.length 0 (0 + 9)))) h1 = some (.agg (aQ m.q.dis m.q.star a b c d e m.q.lim)) := loadP ss (j := 0 + 9) (n := 8) (by simp) (by decide)
  simp only [ss.faddr,ld,bind1_some,castAgg_agg,castCons_cons,castInt_int,castBool_bool,castNil_nil]
  refine putN (n := 8) (zs := aQ false false .nils .nils .nils .nils .nils 0) (ds := aQ m.q.dis m.q.star a b c d e m.q.lim) rfl rfl rfl (by decide) (aQ_sc (LR.sc t1).2 (LR.sc t2).2 (LR.sc t3).2 (LR.sc t4).2 (LR.sc t5).2) fun h2 sq k2 => ?_
  have k12 := k1.tr k2
  have s2 := ss.kp k2
  have nk:∀ j,j ∈ ([]:List Nat) → ¬ I j := fun j hj => by cases hj
  have e1 := LR.len ((rL 4 rCl).keep u1 k12 nk)
  have e2 := LR.len ((rL 1 rStr).keep u2 k12 nk)
  have u3' := (rL 1 (rL 8 rEx)).keep u3 k12 nk
  have e3 := LR.len u3'
  have e4 := LR.len ((rL 9 rAs).keep u4 k12 nk)
  have e5 := LR.len ((rL 9 rIt).keep t1 k12 nk)
  have e6 := LR.len ((rL 10 rSr).keep t2 k12 nk)
  have e7 := LR.len ((rL 8 rEx).keep t4 k12 nk)
  have e8 := LR.len ((rL 9 rOd).keep t5 k12 nk)
  obtain ⟨R,eR,hR⟩ := long14L lf u3' (by omega) m.rows.length 0 lf (mx2 (mx2 (mx2 (mx2 (mx2 (m.cols.length:Int) (m.keys.length:Int)) (m.sets.length:Int)) (m.q.items.length:Int)) (m.q.gr.length:Int)) (m.q.od.length:Int)) (by omega) (by omega)
  have eR':L14_0 lf lf (mx2 (mx2 (mx2 (mx2 (mx2 (m.cols.length:Int) (m.keys.length:Int)) (m.sets.length:Int)) (m.q.items.length:Int)) (m.q.gr.length:Int)) (m.q.od.length:Int)) c3 m.rows.length 0 h2 = some (.exit 0,[.int .i64 R],h2) := eR
  simp only [s2.faddr,sq.faddr,s2.load1 (j := 0 + 4) (c := c1) rfl,s2.load1 (j := 0 + 5) (c := c2) rfl,s2.load1 (j := 0 + 6) (c := c3) rfl,s2.load1 (j := 0 + 7) (c := c4) rfl,sq.load1 (j := 0 + 2) (c := a) rfl,sq.load1 (j := 0 + 3) (c := b) rfl,sq.load1 (j := 0 + 5) (c := d) rfl,sq.load1 (j := 0 + 6) (c := e) rfl,bind1_some,e1,e2,e3,e4,e5,e6,e7,e8,castInt_int,eR',bind3_some,decide_true,cB_true,castCons_cons,castNil_nil]
  have g8:∀ n:Nat,decide ((n:Int) > 8) = decide (8 < n) := fun n => nat_gt n 8
  have g10:decide ((m.rows.length:Int) > 10) = decide (10 < m.rows.length) := nat_gt _ 10
  have g3:decide ((m.q.srcs.length:Int) > 3) = decide (3 < m.q.srcs.length) := nat_gt _ 3
  rw [List.drop_zero,mx_gt,mx_gt,mx_gt,mx_gt,mx_gt,g8,g8,g8,g8,g8,g8] at hR
  have hlong:longP m = (decide (R > 8) || decide (10 < m.rows.length) || decide (3 < m.q.srcs.length)) := by rw [hR]; rfl
  rw [hlong,g10,g3]
  cases decide (R > 8) with
  | true => exact To2.some ⟨rfl,k12⟩
  | false =>
    cases decide (10 < m.rows.length) with
    | true => exact To2.some ⟨rfl,k12⟩
    | false => exact To2.some ⟨rfl,k12⟩
end Go.Proofs.Ytjpjeilfmjdhcaa.Ps
