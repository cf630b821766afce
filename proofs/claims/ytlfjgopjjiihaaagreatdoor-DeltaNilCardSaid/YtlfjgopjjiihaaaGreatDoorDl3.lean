import Derived.Test.YtlfjgopjjiihaaaGreatDoorDl2
namespace Go.Proofs.YtlfjgopjjiihaaaGreatDoor.Dl
open Go Go.Proofs.YtlfjgopjjiihaaaGreatDoor.E
set_option maxRecDepth 100000
set_option linter.unusedVariables false
set_option linter.unusedSimpArgs false
theorem rows : TabOk Tryz.prog tab := tabOk_of (rows_cons ⟨_, Tryz.func3, ok3, en3⟩ (rows_cons ⟨_, Tryz.func4, ok4, en4⟩ (rows_cons ⟨_, Tryz.func5, ok5, en5⟩ (rows_cons ⟨_, Tryz.func6, ok6, en6⟩ (rows_cons ⟨_, Tryz.func7, ok7, en7⟩ (rows_cons ⟨_, Tryz.func8, ok8, en8⟩ (rows_cons ⟨_, Tryz.func9, ok9, en9⟩ (rows_cons ⟨_, Tryz.func10, ok10, en10⟩ (rows_cons ⟨_, Tryz.func11, ok11, en11⟩ (rows_cons ⟨_, Tryz.func12, ok12, en12⟩ (rows_cons ⟨_, Tryz.func13, ok13, en13⟩ (rows_cons ⟨_, Tryz.func14, ok14, en14⟩ (rows_cons ⟨_, Tryz.func15, ok15, en15⟩ (rows_cons ⟨_, Tryz.func16, ok16, en16⟩ (rows_cons ⟨_, Tryz.func17, ok17, en17⟩ (rows_cons ⟨_, Tryz.func18, ok18, en18⟩ (rows_cons ⟨_, Tryz.func19, ok19, en19⟩ (rows_cons ⟨_, Tryz.func20, ok20, en20⟩ (rows_cons ⟨_, Tryz.func21, ok21, en21⟩ (rows_cons ⟨_, Tryz.func22, ok22, en22⟩ (rows_cons ⟨_, Tryz.func23, ok23, en23⟩ (rows_cons ⟨_, Tryz.func24, ok24, en24⟩ (rows_cons ⟨_, Tryz.func25, ok25, en25⟩ (rows_cons ⟨_, Tryz.func26, ok26, en26⟩ (rows_cons ⟨_, Tryz.func27, ok27, en27⟩ (rows_cons ⟨_, Tryz.func28, ok28, en28⟩ (rows_cons ⟨_, Tryz.func29, ok29, en29⟩ (rows_cons ⟨_, Tryz.func30, ok30, en30⟩ (rows_cons ⟨_, Tryz.func31, ok31, en31⟩ (rows_cons ⟨_, Tryz.func32, ok32, en32⟩ (rows_cons ⟨_, Tryz.func33, ok33, en33⟩ (rows_cons ⟨_, Tryz.func34, ok34, en34⟩ (rows_cons ⟨_, Tryz.func35, ok35, en35⟩ (rows_cons ⟨_, Tryz.func36, ok36, en36⟩ (rows_cons ⟨_, Tryz.func37, ok37, en37⟩ (rows_cons ⟨_, Tryz.func38, ok38, en38⟩ (rows_cons ⟨_, Tryz.func39, ok39, en39⟩ (rows_cons ⟨_, Tryz.func40, ok40, en40⟩ (rows_cons ⟨_, Tryz.func41, ok41, en41⟩ (rows_cons ⟨_, Tryz.func42, ok42, en42⟩ (rows_cons ⟨_, Tryz.func43, ok43, en43⟩ (rows_cons ⟨_, Tryz.func44, ok44, en44⟩ (rows_cons ⟨_, Tryz.func45, ok45, en45⟩ (rows_cons ⟨_, Tryz.func46, ok46, en46⟩ (rows_cons ⟨_, Tryz.func47, ok47, en47⟩ (rows_cons ⟨_, Tryz.func48, ok48, en48⟩ (rows_cons ⟨_, Tryz.func49, ok49, en49⟩ (rows_cons ⟨_, Tryz.func50, ok50, en50⟩ (rows_cons ⟨_, Tryz.func51, ok51, en51⟩ (rows_cons ⟨_, Tryz.func52, ok52, en52⟩ (rows_cons ⟨_, Tryz.func53, ok53, en53⟩ (rows_cons ⟨_, Tryz.func54, ok54, en54⟩ (rows_cons ⟨_, Tryz.func55, ok55, en55⟩ (rows_cons ⟨_, Tryz.func56, ok56, en56⟩ (rows_cons ⟨_, Tryz.func57, ok57, en57⟩ (rows_cons ⟨_, Tryz.func58, ok58, en58⟩ (rows_cons ⟨_, Tryz.func59, ok59, en59⟩ (rows_cons ⟨_, Tryz.func60, ok60, en60⟩ (rows_cons ⟨_, Tryz.func61, ok61, en61⟩ (rows_cons ⟨_, Tryz.func62, ok62, en62⟩ (rows_cons ⟨_, Tryz.func63, ok63, en63⟩ (rows_cons ⟨_, Tryz.func64, ok64, en64⟩ (rows_cons ⟨_, Tryz.func65, ok65, en65⟩ (rows_cons ⟨_, Tryz.func66, ok66, en66⟩ (rows_cons ⟨_, Tryz.func67, ok67, en67⟩ (rows_cons ⟨_, Tryz.func68, ok68, en68⟩ (rows_cons ⟨_, Tryz.func70, ok70, en70⟩ (rows_cons ⟨_, Tryz.func71, ok71, en71⟩ (rows_cons ⟨_, Tryz.func72, ok72, en72⟩ (rows_cons ⟨_, Tryz.func73, ok73, en73⟩ (rows_cons ⟨_, Tryz.func74, ok74, en74⟩ (rows_cons ⟨_, Tryz.func76, ok76, en76⟩ (rows_cons ⟨_, Tryz.func77, ok77, en77⟩ (rows_cons ⟨_, Tryz.func78, ok78, en78⟩ (rows_cons ⟨_, Tryz.func79, ok79, en79⟩ (rows_cons ⟨_, Tryz.func80, ok80, en80⟩ (rows_cons ⟨_, Tryz.func81, ok81, en81⟩ (rows_cons ⟨_, Tryz.func82, ok82, en82⟩ (rows_cons ⟨_, Tryz.func83, ok83, en83⟩ (rows_cons ⟨_, Tryz.func84, ok84, en84⟩ (rows_cons ⟨_, Tryz.func85, ok85, en85⟩ (rows_cons ⟨_, Tryz.func86, ok86, en86⟩ (rows_cons ⟨_, Tryz.func87, ok87, en87⟩ (rows_cons ⟨_, Tryz.func88, ok88, en88⟩ (rows_cons ⟨_, Tryz.func89, ok89, en89⟩ (rows_cons ⟨_, Tryz.func90, ok90, en90⟩ (rows_cons ⟨_, Tryz.func91, ok91, en91⟩ (rows_cons ⟨_, Tryz.func92, ok92, en92⟩ (rows_cons ⟨_, Tryz.func93, ok93, en93⟩ (rows_cons ⟨_, Tryz.func94, ok94, en94⟩ (rows_cons ⟨_, Tryz.func95, ok95, en95⟩ (rows_cons ⟨_, Tryz.func96, ok96, en96⟩ (rows_cons ⟨_, Tryz.func97, ok97, en97⟩ (rows_cons ⟨_, Tryz.func98, ok98, en98⟩ (rows_cons ⟨_, Tryz.func99, ok99, en99⟩ (rows_cons ⟨_, Tryz.func100, ok100, en100⟩ (rows_cons ⟨_, Tryz.func101, ok101, en101⟩ (rows_cons ⟨_, Tryz.func102, ok102, en102⟩ (rows_cons ⟨_, Tryz.func103, ok103, en103⟩ (rows_cons ⟨_, Tryz.func104, ok104, en104⟩ (rows_cons ⟨_, Tryz.func105, ok105, en105⟩ (rows_cons ⟨_, Tryz.func106, ok106, en106⟩ (rows_cons ⟨_, Tryz.func107, ok107, en107⟩ (rows_cons ⟨_, Tryz.func108, ok108, en108⟩ (rows_cons ⟨_, Tryz.func109, ok109, en109⟩ (rows_cons ⟨_, Tryz.func110, ok110, en110⟩ (rows_cons ⟨_, Tryz.func111, ok111, en111⟩ (rows_cons ⟨_, Tryz.func112, ok112, en112⟩ (rows_cons ⟨_, Tryz.func113, ok113, en113⟩ (rows_cons ⟨_, Tryz.func114, ok114, en114⟩ (rows_cons ⟨_, Tryz.func115, ok115, en115⟩ (rows_cons ⟨_, Tryz.func116, ok116, en116⟩ (rows_cons ⟨_, Tryz.func117, ok117, en117⟩ (rows_cons ⟨_, Tryz.func118, ok118, en118⟩ (rows_cons ⟨_, Tryz.func120, ok120, en120⟩ (rows_cons ⟨_, Tryz.func121, ok121, en121⟩ (rows_cons ⟨_, Tryz.func123, ok123, en123⟩ (rows_cons ⟨_, Tryz.func124, ok124, en124⟩ (rows_cons ⟨_, Tryz.func125, ok125, en125⟩ (rows_cons ⟨_, Tryz.func126, ok126, en126⟩ (rows_cons ⟨_, Tryz.func127, ok127, en127⟩ (rows_cons ⟨_, Tryz.func128, ok128, en128⟩ (rows_cons ⟨_, Tryz.func129, ok129, en129⟩ (rows_cons ⟨_, Tryz.func130, ok130, en130⟩ (rows_cons ⟨_, Tryz.func131, ok131, en131⟩ (rows_cons ⟨_, Tryz.func132, ok132, en132⟩ (rows_cons ⟨_, Tryz.func133, ok133, en133⟩ (rows_cons ⟨_, Tryz.func134, ok134, en134⟩ (rows_cons ⟨_, Tryz.func135, ok135, en135⟩ (rows_cons ⟨_, Tryz.func136, ok136, en136⟩ (rows_cons ⟨_, Tryz.func138, ok138, en138⟩ (rows_cons ⟨_, Tryz.func139, ok139, en139⟩ rows_nil))))))))))))))))))))))))))))))))))))))))))))))))))))))))))))))))))))))))))))))))))))))))))))))))))))))))))))))))))))))))))))))))))))
theorem all_nil : ∀ p, p ∈ ([] : List (Option V × Bool)) → p.1 = some (.bool p.2) := fun p h => by cases h
theorem awakeCD : CD Tryz.prog 4 [] [] (.bool true) [] :=
  ⟨en4, (CE.pure ((ce_of_X rows noSums_ok awake0 all_nil).mono fun v h q => by
    rw [List.mem_singleton] at q; subst q; exact ⟨(rfl : V.bool true = .bool true), rfl⟩) rfl []).mono fun v h q => q⟩
theorem cd_of {f : FuncId} {args : List V} {h h' : List Ob} {v : V} (e : ev f args h = some ([(v, h')], ⟨[], []⟩)) : CD Tryz.prog f args h v h' := by
  obtain ⟨_, g⟩ := evX_ok rows noSums_ok (fun _ => false) 1000 14 f args h ⟨[], []⟩ _ _ e
  obtain ⟨g1, g2⟩ := g (fun p hp => by simp at hp)
  refine ⟨g1, g2.mono fun v2 h2 q => ?_⟩
  rw [List.mem_singleton] at q
  injection q with q1 q2
  exact ⟨q1, q2⟩
theorem law_ce {v : V} {n : Int} (h2 : L2 v) : CE Tryz.prog 3 [.int .i64 n, v] [] fun r _ => r = .bool true := by
  have fin : ∀ {h' : List Ob}, (∃ t', Runs Tryz.prog c3.code (env0 [.int .i64 n, v]) [] .ret t' h' ∧ [4].map t' = [.bool true]) → CE Tryz.prog 3 [.int .i64 n, v] [] fun r _ => r = .bool true := by
    rintro h' ⟨t', r, e⟩
    simp only [List.map_cons, List.map_nil, List.cons.injEq, and_true] at e
    exact (CD.of_runs (args := [.int .i64 n, v]) Tryz.func3 ok3 en3 (show 2 ≤ 47 by decide) r (.inr rfl) (v := .bool true) (by simp [c3, resE, mapAll, ERs.ev, e])).2.mono fun r h q => q.1
  obtain ⟨b, hb⟩ := fewRows_ok (M := 15) h2
  cases b
  · exact fin (runs_of noSums_ok [(0, .int .i64 n), (1, v)] ⟨rfl, rfl, trivial⟩ (run3a Tryz.prog _ v n) (ands_cons awakeCD (ands_cons hb (ands_cons awakeCD ands_nil))))
  · exact fin (runs_of noSums_ok [(0, .int .i64 n), (1, v)] ⟨rfl, rfl, trivial⟩ (run3b Tryz.prog _ v n) (ands_cons (cd_of (ev11 n)) (ands_cons (cd_of (ev10 n)) (ands_cons (cd_of (ev8 n)) (ands_cons (cd_of ev9) (ands_cons (cd_of (ev7 v)) (ands_cons (cd_of ev6) (ands_cons hb (ands_cons awakeCD ands_nil)))))))))
theorem agg51 : isAggT Tryz.prog 51 = false := by kernel_rfl
theorem agg26 : isAggT Tryz.prog 26 = false := by kernel_rfl
theorem mx : maxLen = 9223372036854775807 := by decide
section
variable {H : Type}
theorem sl0 {d : DataW H} {cs : List V} (h : dV Tryz.prog d 51 = some cs) : ∃ v, cs = [v] ∧ L0 v := by
  rcases dV_slice' Tryz.underlying51 h with rfl | ⟨_, _, es, _, hd, rfl, hl⟩
  · exact ⟨_, rfl, .inl rfl⟩
  · exact ⟨_, rfl, .inr ⟨es, rfl, by rw [mx] at hl; exact hl⟩⟩
theorem sl1 {d : DataW H} {cs : List V} (h : dV Tryz.prog d 26 = some cs) : ∃ v, cs = [v] ∧ L1 v := by
  rcases dV_slice' Tryz.underlying26 h with rfl | ⟨_, _, es, _, hd, rfl, hl⟩
  · exact ⟨_, rfl, .inl rfl⟩
  · refine ⟨_, rfl, .inr ⟨es, rfl, by rw [mx] at hl; exact hl, fun i e he => ?_⟩⟩
    obtain ⟨d, cs, h1, h2⟩ := dVs_get hd i e he
    obtain ⟨v, rfl, hv⟩ := sl0 h1
    rw [h2]; simpa [elemV, agg51] using hv
theorem sl2 {d : DataW H} {cs : List V} (h : dV Tryz.prog d 22 = some cs) : ∃ v, cs = [v] ∧ L2 v := by
  rcases dV_slice' Tryz.underlying22 h with rfl | ⟨_, _, es, _, hd, rfl, hl⟩
  · exact ⟨_, rfl, .inl rfl⟩
  · refine ⟨_, rfl, .inr ⟨es, rfl, by rw [mx] at hl; exact hl, fun i e he => ?_⟩⟩
    obtain ⟨d, cs, h1, h2⟩ := dVs_get hd i e he
    obtain ⟨v, rfl, hv⟩ := sl1 h1
    rw [h2]; simpa [elemV, agg26] using hv
theorem shape {d0 d1 : DataW H} {u0 u1 : List V} (h0 : dV Tryz.prog d0 3 = some u0) (h1 : dV Tryz.prog d1 22 = some u1) : ∃ y0 y1, u0 = [y0] ∧ u1 = [y1] ∧ CE Tryz.prog 3 [y0, y1] [] fun v _ => v = .bool true := by
  obtain ⟨n, rfl, _, _⟩ := dV_int' Tryz.underlying3 h0
  obtain ⟨v, rfl, hv⟩ := sl2 h1
  exact ⟨_, _, rfl, rfl, law_ce hv⟩
end
end Go.Proofs.YtlfjgopjjiihaaaGreatDoor.Dl
