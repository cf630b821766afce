/- Expressions: whether one has what its kind has, by both functions. No condition. -/
import Derived.Test.YtjpjeilfmjdhcaaDoorExR
namespace Go.Proofs.YtjpjeilfmjdhcaaDoor.Ex
open Go Go.Proofs.YtjpjeilfmjdhcaaDoor.E
open Go.Proofs.YtjpjeilfmjdhcaaDoor.Ln
set_option maxRecDepth 100000
set_option linter.unusedVariables false
set_option linter.unusedSimpArgs false
theorem shaped100 {lf:Nat} (hf:1000 < lf) {h:List Ob} {n:Nd} {pv:V} {es:List V} {l:Nat} (s:Sl 8 h pv es) (hl:es.length = l) (ht:n.tb.length < lf) (hc:n.cl.length < lf) (ok:nOk n) :
    To2 (F26 lf n.k n.op n.vk n.vn n.vs n.tb n.cl pv h) fun v h' => v = .bool (shB n l) ∧ Kp h h' [] := by
  simp only [F26]
  refine To2.bind2 (box_to (cs := aC n pv) (aC_sc s)) ?_
  rintro v h1 ⟨rfl,st,k1⟩
  have fa := fun o => st.faddr o 0 0
  have l0:er (.load1 (.c (.ptr h.length 0 0))) h1 = some (.int .i64 n.k) := st.load1 rfl
  have l1:er (.load1 (.c (.ptr h.length 0 1))) h1 = some (.str n.op) := st.load1 rfl
  have l2:er (.loadN 3 (.c (.ptr h.length 0 2))) h1 = some (.agg [.int .i64 n.vk,.int .i64 n.vn,.str n.vs]) := loadP st (by simp) (by decide)
  have l5:er (.load1 (.c (.ptr h.length 0 5))) h1 = some (.str n.tb) := st.load1 rfl
  have l6:er (.load1 (.c (.ptr h.length 0 6))) h1 = some (.str n.cl) := st.load1 rfl
  have l7:er (.load1 (.c (.ptr h.length 0 7))) h1 = some pv := st.load1 rfl
  have ll := er_lenL (s.kp k1)
  rw [hl] at ll
  simp only [Nat.zero_add] at fa
  have e0:((l:Int) == 0) = decide (l = 0) := int_eq l 0
  have e1:((l:Int) == 1) = decide (l = 1) := int_eq l 1
  have e2:((l:Int) == 2) = decide (l = 2) := int_eq l 2
  have eb:er (.build [(.int .i64 0),(.int .i64 0),(.str [])] []) h1 = some (.agg [.int .i64 0,.int .i64 0,.str []]) := rfl
  have eS1:S26_1 lf (.ptr h.length 0 0) h1 = some (.normal,[.bool (!plainB n)],h1) := by
    simp only [S26_1,fa,l5,l6,bind1_some,castStr_str]
    unfold plainB
    cases (n.tb == []) <;> rfl
  have ez:(n.vk == 0 && (n.vn == 0 && n.vs == [])) = zeroB n := rfl
  have eS0:S26_0 lf (.ptr h.length 0 0) (!plainB n) h1 = if ((n.k != 1 && !zeroB n) || (n.k != 2 && !plainB n)) = true then some (.ret,[.bool false],h1) else some (.normal,[],h1) := by
    simp only [S26_0,fa,l0,l2,bind1_some,castInt_int,castAgg_agg,castCons_cons,castStr_str,castNil_nil,eb,neV3,castBool_bool,ez]
    cases (n.k != 1) <;> cases zeroB n <;> cases (n.k != 2) <;> cases plainB n <;> rfl
  simp only [fa,l7,ll,bind1_some,castInt_int,eS1,bind3_some,decide_true,cB_true,castCons_cons,castBool_bool,castNil_nil]
  rw [eS0]
  have fin:∀ {Q:V → List Ob → Prop} {K:Option (V × List Ob)},True := fun {_ _} => trivial
  by_cases g:((n.k != 1 && !zeroB n) || (n.k != 2 && !plainB n)) = true
  · rw [if_pos g,bind3_some]
    simp only [decide_true,cB_true,castCons_cons,castBool_bool,castNil_nil]
    refine To2.some ⟨?_,k1⟩
    have:shB n l = false := by
      simp only [Bool.or_eq_true,Bool.and_eq_true,bne_iff_ne,ne_eq,Bool.not_eq_true'] at g
      unfold shB
      by_cases c1:n.k = 1
      · rw [if_pos c1]
        have hp:plainB n = false := by
          rcases g with g | g
          · exact absurd c1 g.1
          · exact g.2
        rw [hp]; simp
      · rw [if_neg c1]
        by_cases c2:n.k = 2
        · rw [if_pos c2]
          have hz:zeroB n = false := by
            rcases g with g | g
            · exact g.2
            · exact absurd c2 g.1
          rw [hz]; simp
        · rw [if_neg c2]
          have hb:plainB n = false ∨ zeroB n = false := by
            rcases g with g | g
            · exact .inr g.2
            · exact .inl g.2
          rcases hb with hb | hb
          · rw [hb]; simp
          · rw [hb]; simp
    rw [this]
  · rw [if_neg g,bind3_some]
    simp only [Bool.or_eq_true,Bool.and_eq_true,bne_iff_ne,ne_eq,Bool.not_eq_true',not_or,not_and,Bool.not_eq_false] at g
    simp only [show decide (EX.normal = EX.ret) = false from rfl,cB_false,decide_true,cB_true,castNil_nil,fa,l0,bind1_some,castInt_int,l1,castStr_str,l2,castAgg_agg,castCons_cons,e0,e1,e2,l5,l6]
    unfold shB
    by_cases c1:n.k = 1
    · have e:(n.k == 1) = true := by simp [c1]
      have hp:plainB n = true := g.2 (by omega)
      rw [e,cB_true,if_pos c1,hp,Bool.true_and]
      cases h0:decide (l = 0) with
      | false => exact To2.some ⟨rfl,k1⟩
      | true =>
        simp only [cB_true,Bool.true_and]
        cases ho:(n.op == []) with
        | false => exact To2.some ⟨rfl,k1⟩
        | true =>
          simp only [cB_true,Bool.true_and]
          refine To2.bind2 (fV114 n.vk n.vn n.vs) ?_
          rintro v h2 ⟨rfl,k2⟩
          have st2 := st.kp k2
          have fa2 := st2.faddr 2 0 0
          have fa3 := st2.faddr 1 0 2
          have l3:er (.load1 (.c (.ptr h.length 0 3))) h2 = some (.int .i64 n.vn) := st2.load1 rfl
          simp only [Nat.zero_add,Nat.reduceAdd] at fa2 fa3
          rw [castBool_bool]
          cases hv:fV n.vk n.vn n.vs with
          | false => exact To2.some ⟨rfl,k1.tr k2⟩
          | true =>
            simp only [cB_true,Bool.true_and,fa2,fa3,l3,bind1_some,castInt_int]
            exact To2.some ⟨rfl,k1.tr k2⟩
    · have e:(n.k == 1) = false := by simp [c1]
      have hz:zeroB n = true := g.1 c1
      rw [e,cB_false,if_neg c1,hz]
      by_cases c2:n.k = 2
      · have e:(n.k == 2) = true := by simp [c2]
        rw [e,cB_true,if_pos c2,Bool.true_and]
        cases h0:decide (l = 0) with
        | false => exact To2.some ⟨rfl,k1⟩
        | true =>
          simp only [cB_true,Bool.true_and]
          cases ho:(n.op == []) with
          | false => exact To2.some ⟨rfl,k1⟩
          | true =>
            simp only [cB_true,Bool.true_and]
            refine To2.bind2 (name24' (by omega) hc ok.2) ?_
            rintro v h2 ⟨rfl,k2⟩
            have st2 := st.kp k2
            have fa5 := st2.faddr 5 0 0
            have l5:er (.load1 (.c (.ptr h.length 0 5))) h2 = some (.str n.tb) := st2.load1 rfl
            simp only [Nat.zero_add] at fa5
            rw [castBool_bool]
            cases hv:nameP n.cl with
            | false => exact To2.some ⟨rfl,k1.tr k2⟩
            | true =>
              simp only [cB_true,Bool.true_and,fa5,l5,bind1_some,castStr_str]
              cases hb:(n.tb == []) with
              | true => exact To2.some ⟨rfl,k1.tr k2⟩
              | false =>
                simp only [cB_false,Bool.false_or]
                refine To2.bind2 (name24' (by omega) ht ok.1) ?_
                rintro v h3 ⟨rfl,k3⟩
                rw [castBool_bool]
                exact To2.some ⟨rfl,(k1.tr k2).tr k3⟩
      · have e:(n.k == 2) = false := by simp [c2]
        have hp:plainB n = true := g.2 c2
        rw [e,cB_false,if_neg c2,hp]
        simp only [Bool.true_and]
        by_cases c3:n.k = 3
        · have e:(n.k == 3) = true := by simp [c3]
          rw [e,cB_true,if_pos c3]
          cases h0:decide (l = 1) with
          | false => exact To2.some ⟨rfl,k1⟩
          | true =>
            simp only [cB_true,Bool.true_and,inP,List.any_cons,List.any_nil,Bool.or_false]
            cases (n.op == [78,79,84]) <;> exact To2.some ⟨rfl,k1⟩
        · have e:(n.k == 3) = false := by simp [c3]
          rw [e,cB_false,if_neg c3]
          by_cases c4:n.k = 4
          · have e:(n.k == 4) = true := by simp [c4]
            rw [e,cB_true,if_pos c4]
            cases h0:decide (l = 2) with
            | false => exact To2.some ⟨rfl,k1⟩
            | true =>
              obtain ⟨m,em,hm⟩ := level115 lf n.op h1
              simp only [cB_true,Bool.true_and,em,bind2_some,castInt_int,hm]
              exact To2.some ⟨rfl,k1⟩
          · have e:(n.k == 4) = false := by simp [c4]
            rw [e,cB_false,if_neg c4]
            by_cases c5:n.k = 5
            · have e:(n.k == 5) = true := by simp [c5]
              rw [e,cB_true,if_pos c5]
              cases h0:decide (l = 1) with
              | false => exact To2.some ⟨rfl,k1⟩
              | true =>
                simp only [cB_true,Bool.true_and,inP,List.any_cons,List.any_nil,Bool.or_false]
                cases (n.op == [73,83,32,78,85,76,76]) <;> exact To2.some ⟨rfl,k1⟩
            · have e:(n.k == 5) = false := by simp [c5]
              rw [e,cB_false,if_neg c5]
              by_cases c6:n.k = 6
              · have e:(n.k == 6) = true := by simp [c6]
                rw [e,cB_true,if_pos c6]
                cases h0:decide (l = 0) with
                | false =>
                  simp only [cB_false,Bool.false_and,Bool.or_false]
                  cases h1':decide (l = 1) with
                  | false => simp only [Bool.and_false]; exact To2.some ⟨rfl,k1⟩
                  | true =>
                    simp only [cB_true,Bool.and_true]
                    refine To2.bind2 (agg116 hf n.op) ?_
                    rintro v h2 ⟨rfl,k2⟩
                    rw [castBool_bool]
                    exact To2.some ⟨rfl,k1.tr k2⟩
                | true =>
                  have h1':decide (l = 1) = false := by
                    simp only [decide_eq_true_eq] at h0
                    exact decide_eq_false (by omega)
                  simp only [cB_true,Bool.true_and,h1',cB_false,Bool.false_or]
                  cases hcn:(n.op == [67,79,85,78,84]) with
                  | false => simp only [cB_false,Bool.and_false]; exact To2.some ⟨rfl,k1⟩
                  | true =>
                    have:inP n.op aggs = true := by simp [inP,aggs,hcn]
                    rw [this]
                    exact To2.some ⟨rfl,k1⟩
              · have e:(n.k == 6) = false := by simp [c6]
                rw [e,cB_false,if_neg c6]
                exact To2.some ⟨rfl,k1⟩
end Go.Proofs.YtjpjeilfmjdhcaaDoor.Ex
