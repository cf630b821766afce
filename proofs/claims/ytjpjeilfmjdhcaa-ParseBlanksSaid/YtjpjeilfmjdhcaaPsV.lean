/- ParseBlanks: the law says yes to every input. No condition. -/
import Derived.Test.YtjpjeilfmjdhcaaPsU
import Derived.Test.YtjpjeilfmjdhcaaL4
import Derived.KernelRfl
namespace Go.Proofs.Ytjpjeilfmjdhcaa.Ps
open Go Go.Proofs.Ytjpjeilfmjdhcaa.E
open Go.Proofs.Ytjpjeilfmjdhcaa.Ln
open Go.Proofs.Ytjpjeilfmjdhcaa.Ex
open Go.Proofs.Ytjpjeilfmjdhcaa.Pr
open Go.Proofs.Ytjpjeilfmjdhcaa.Rd
open Go.Proofs.Ytjpjeilfmjdhcaa.St
set_option maxRecDepth 100000
set_option linter.unusedVariables false
set_option linter.unusedSimpArgs false
theorem noteL (lf:Nat) {s:List UInt8} {h:List Ob} (hs:s.length ≤ 4611686018427387904):∀ (m i f:Nat),s.length = i + m → m < f → L3_0 lf f s s.length i h = if 10 ∈ s.drop i then some (.ret,[.bool true],h) else some (.exit 0,[],h) := by
  intro m
  induction m with
  | zero =>
    intro i f hm hf
    obtain ⟨f,rfl⟩:∃ g,f = g + 1 := ⟨f - 1,by omega⟩
    have hd:decide ((i:Int) < (s.length:Int)) = false := decide_eq_false (by omega)
    have hn:s.drop i = [] := List.drop_of_length_le (by omega)
    simp only [L3_0,B3_0,hd,cB_false,hn,List.not_mem_nil,if_false]
  | succ m ih =>
    intro i f hm hf
    obtain ⟨f,rfl⟩:∃ g,f = g + 1 := ⟨f - 1,by omega⟩
    have hlt:i < s.length := by omega
    have hd:decide ((i:Int) < (s.length:Int)) = true := decide_eq_true (by omega)
    have w2:IntKind.i64.wrap ((i:Int) + 1) = ((i + 1:Nat):Int) := by rw [wrap_i64 (by omega) (by omega)]; omega
    have ih' := ih (i + 1) f (by omega) (by omega)
    have eb:er (.idxS (.c (.str s)) (.c (.int .i64 (i:Int)))) h = some (.int .u8 (s[i].toNat)) := er_idxS (List.getElem?_eq_getElem hlt)
    simp only [L3_0,B3_0,hd,cB_true,eb,bind1_some,castInt_int,w2,ih']
    rw [List.drop_eq_getElem_cons hlt]
    by_cases c:s[i] = 10
    · have e1:(((s[i].toNat:Nat):Int) == 10) = true := by rw [c]; rfl
      rw [e1,cB_true,if_pos (by simp [c])]
    · have e1:(((s[i].toNat:Nat):Int) == 10) = false := by
        have:((s[i].toNat:Nat):Int) ≠ 10 := fun z => c (UInt8.toNat_inj.1 (by show s[i].toNat = 10; omega))
        simpa using this
      rw [e1,cB_false]
      have:(10 ∈ s[i] :: s.drop (i + 1)) ↔ 10 ∈ s.drop (i + 1) := by
        simp only [List.mem_cons]
        exact ⟨fun z => z.elim (fun y => absurd y.symm c) id,.inr⟩
      simp only [this]
theorem scan_none:∀ (m:Nat) (t:List UInt8) (sk:Nat) (nt:Bool) (ws:List Wd) (e e':Int),scan m t sk nt ws e = (none,e') → e' ≠ 0 := by
  have fin:∀ {ws:List Wd} {e e':Int},Go.Proofs.Ytjpjeilfmjdhcaa.Ln.finP ws e = (none,e') → e' ≠ 0 := by
    intro ws e e' h
    unfold Go.Proofs.Ytjpjeilfmjdhcaa.Ln.finP at h
    split at h
    · cases h
    · rename_i z
      injection h with h1 h2
      rw [← h2]; exact z
  intro m
  induction m with
  | zero => intro t sk nt ws e e' h; exact fin h
  | succ m ih =>
    intro t sk nt ws e e' h
    rw [scan] at h
    split at h
    · exact fin h
    · split at h
      · rename_i z
        injection h with h1 h2
        rw [← h2]; exact z
      · exact ih _ _ _ _ _ _ h
theorem wordsP_none {s:List UInt8} {e:Int} (h:wordsP s = (none,e)):e ≠ 0 := by
  unfold wordsP at h
  split at h
  · injection h with h1 h2
    rw [← h2]; decide
  · exact scan_none _ _ _ _ _ _ _ h
theorem read_blanks {note b:List UInt8} (hb:b.length ≤ 1500) (hl:note.length ≤ 1000) (hn:10 ∉ note) (h0:(readP b).2 = 0):readP ([32,9,10,45,45] ++ note ++ [10] ++ b ++ [10,32,45,45] ++ note) = readP b := by
  cases hw:wordsP b with
  | mk o e =>
    cases o with
    | none =>
      have:readP b = (zS,e) := by unfold readP; rw [hw]
      rw [this] at h0
      exact absurd h0 (wordsP_none hw)
    | some ws =>
      have h1:readP b = readW ws := by unfold readP; rw [hw]
      have h2 := blanks hb hl hn hw
      rw [h1]
      unfold readP
      rw [h2]
theorem awake_read:readP [68,82,79,80,32,84,65,66,76,69,32,116,59] = ({ zS with k := 4,name := [116] },0) := by kernel_rfl
theorem awake4 {lf:Nat} (hf:5000000 < lf) {h:List Ob}:To2 (F4 lf h) fun v h' => v = .bool true ∧ Kp h h' [] := by
  simp only [F4]
  refine To2.bind2 (read5 hf _) ?_
  rintro v h1 ⟨k1,V,rfl,t⟩
  rw [awake_read] at t ⊢
  obtain ⟨c1,c2,c3,c4,c5,a,b,c,d,e,rfl,u1,u2,u3,u4,u5,t1,t2,t3,t4,t5⟩ := t
  have e1:(zS.k,0) = ((0:Int),0) := rfl
  simp only [castTup_tup,castCons_cons,castAgg_agg,castInt_int,castStr_str,castBool_bool,castNil_nil]
  refine putN (n := 17) (zs := zM) (ds := aM 4 [116] zS.on zS.un c1 c2 c3 c4 c5 zS.q.dis zS.q.star a b c d e zS.q.lim) rfl rfl rfl (by decide) (aM_sc (LR.sc u1).2 (LR.sc u2).2 (LR.sc u3).2 (LR.sc u4).2 (LR.sc u5).2 (LR.sc t1).2 (LR.sc t2).2 (LR.sc t3).2 (LR.sc t4).2 (LR.sc t5).2) fun h2 sm k2 => ?_
  have z0:((0:Int) == 0) = true := rfl
  have z4:((4:Int) == 4) = true := rfl
  have z5:(([116]:List UInt8) == [116]) = true := rfl
  simp only [z0,cB_true,sm.faddr,sm.load1 (j := 0 + 0) (c := .int .i64 4) rfl,sm.load1 (j := 0 + 1) (c := .str [116]) rfl,bind1_some,castInt_int,castStr_str,z4,z5]
  exact To2.some ⟨rfl,k1.tr k2⟩
theorem law3 {lf D:Nat} (hf:5000000 < lf) {text note:List UInt8} (hD:D ≤ lf) (G:GM 5000 D 1000 (readP text).1) (hn:note.length < lf) (hn2:note.length ≤ 1000000000000000) {h:List Ob}:To2 (F3 lf text note h) fun v _ => v = .bool true := by
  have dn:decide (EX.normal = EX.ret) = false := rfl
  have aw:To3 (S3_1 lf text note h) fun x vs h' => Kp h h' [] ∧ ((x = .ret ∧ vs = [.bool true]) ∨ (x = .normal ∧ vs = [] ∧ text.length ≤ 1500 ∧ note.length ≤ 1000)) := by
    simp only [S3_1]
    refine To3.bind2 (awake4 hf) ?_
    rintro v h1 ⟨rfl,k1⟩
    simp only [castBool_bool,Bool.not_true,cB_false]
    by_cases q:text.length ≤ 1500
    · have z:decide ((text.length:Int) > 1500) = false := decide_eq_false (by omega)
      simp only [z,cB_false]
      by_cases p:note.length ≤ 1000
      · have y:decide ((note.length:Int) > 1000) = false := decide_eq_false (by omega)
        simp only [y,cB_false]
        exact To3.some ⟨k1,.inr ⟨rfl,rfl,q,p⟩⟩
      · have y:decide ((note.length:Int) > 1000) = true := decide_eq_true (by omega)
        simp only [y,cB_true]
        refine To3.bind2 (awake4 hf) ?_
        rintro v h2 ⟨rfl,k2⟩
        simp only [castBool_bool]
        exact To3.some ⟨k1.tr k2,.inl ⟨rfl,rfl⟩⟩
    · have z:decide ((text.length:Int) > 1500) = true := decide_eq_true (by omega)
      simp only [z,cB_true]
      refine To3.bind2 (awake4 hf) ?_
      rintro v h2 ⟨rfl,k2⟩
      simp only [castBool_bool]
      exact To3.some ⟨k1.tr k2,.inl ⟨rfl,rfl⟩⟩
  simp only [F3]
  refine To2.bind3 aw ?_
  rintro x vs h1 ⟨k1,⟨rfl,rfl⟩ | ⟨rfl,rfl,ht,hl⟩⟩
  · simp only [decide_true,cB_true,castCons_cons,castBool_bool,castNil_nil]
    exact To2.some rfl
  simp only [dn,cB_false,decide_true,cB_true,castNil_nil]
  have eL := noteL lf (s := note) (h := h1) (by omega) note.length 0 lf (by omega) hn
  rw [List.drop_zero] at eL
  have eL':L3_0 lf lf note (note.length:Int) 0 h1 = if 10 ∈ note then some (.ret,[.bool true],h1) else some (.exit 0,[],h1) := eL
  by_cases h10:10 ∈ note
  · rw [if_pos h10] at eL'
    have dr:decide (EX.ret = EX.exit 0) = false := rfl
    simp only [eL',bind3_some,dr,cB_false,decide_true,cB_true,castCons_cons,castBool_bool,castNil_nil]
    exact To2.some rfl
  · rw [if_neg h10] at eL'
    simp only [eL',bind3_some,decide_true,cB_true,castNil_nil]
    refine To2.bind2 (read5 hf text) ?_
    rintro v h2 ⟨k2,V,rfl,t⟩
    have tc := t
    obtain ⟨c1,c2,c3,c4,c5,a,b,c,d,e,rfl,u1,u2,u3,u4,u5,t1,t2,t3,t4,t5⟩ := tc
    simp only [castTup_tup,castCons_cons,castAgg_agg,castInt_int,castStr_str,castBool_bool,castNil_nil]
    have sc1 := aM_sc (k := (readP text).1.k) (name := (readP text).1.name) (on := (readP text).1.on) (un := (readP text).1.un) (dis := (readP text).1.q.dis) (star := (readP text).1.q.star) (lim := (readP text).1.q.lim) (LR.sc u1).2 (LR.sc u2).2 (LR.sc u3).2 (LR.sc u4).2 (LR.sc u5).2 (LR.sc t1).2 (LR.sc t2).2 (LR.sc t3).2 (LR.sc t4).2 (LR.sc t5).2
    refine putN (n := 17) (zs := zM) (ds := aM (readP text).1.k (readP text).1.name (readP text).1.on (readP text).1.un c1 c2 c3 c4 c5 (readP text).1.q.dis (readP text).1.q.star a b c d e (readP text).1.q.lim) rfl rfl rfl (by decide) sc1 fun h3 sm k3 => ?_
    by_cases z:(readP text).2 = 0
    · have z0:((readP text).2 != 0) = false := by rw [z]; rfl
      have s1 := er_addS (h := h3) (a := [32,9,10,45,45]) (b := note) (by simp; omega)
      have s2 := er_addS (h := h3) (a := [32,9,10,45,45] ++ note) (b := [10]) (by simp; omega)
      have s3 := er_addS (h := h3) (a := [32,9,10,45,45] ++ note ++ [10]) (b := text) (by simp; omega)
      have s4 := er_addS (h := h3) (a := [32,9,10,45,45] ++ note ++ [10] ++ text) (b := [10,32,45,45]) (by simp; omega)
      have s5 := er_addS (h := h3) (a := [32,9,10,45,45] ++ note ++ [10] ++ text ++ [10,32,45,45]) (b := note) (by simp; omega)
      simp only [z0,cB_false,s1,s2,s3,s4,s5,bind1_some,castStr_str]
      refine To2.bind2 (read5 hf _) ?_
      rintro v h4 ⟨k4,V',rfl,t'⟩
      rw [read_blanks ht hl h10 z] at t' ⊢
      have tc' := t'
      obtain ⟨d1,d2,d3,d4,d5,a',b',c',d',e',rfl,w1,w2,w3,w4,w5,s1',s2',s3',s4',s5'⟩ := tc'
      simp only [castTup_tup,castCons_cons,castAgg_agg,castInt_int,castStr_str,castBool_bool,castNil_nil]
      have sc2 := aM_sc (k := (readP text).1.k) (name := (readP text).1.name) (on := (readP text).1.on) (un := (readP text).1.un) (dis := (readP text).1.q.dis) (star := (readP text).1.q.star) (lim := (readP text).1.q.lim) (LR.sc w1).2 (LR.sc w2).2 (LR.sc w3).2 (LR.sc w4).2 (LR.sc w5).2 (LR.sc s1').2 (LR.sc s2').2 (LR.sc s3').2 (LR.sc s4').2 (LR.sc s5').2
      refine putN (n := 17) (zs := zM) (ds := aM (readP text).1.k (readP text).1.name (readP text).1.on (readP text).1.un d1 d2 d3 d4 d5 (readP text).1.q.dis (readP text).1.q.star a' b' c' d' e' (readP text).1.q.lim) rfl rfl rfl (by decide) sc2 fun h5 sn k5 => ?_
      have z1:((readP text).2 == 0) = true := by rw [z]; rfl
      have sm5 := (sm.kp k4).kp k5
      simp only [z1,cB_true,sm5.loadN' (n := 17) rfl,sn.loadN' (n := 17) rfl,bind1_some]
      have ta := rM.keep (rM.keep (rM.keep t k3 (fun j hj => by cases hj)) k4 (fun j hj => by cases hj)) k5 (fun j hj => by cases hj)
      have tb := rM.keep t' k5 (fun j hj => by cases hj)
      refine To2.bind2 (same6 (w := 5000) (D := D) (N := 1000) (by omega) (by decide) hD (by decide) (by omega) G ta tb) ?_
      rintro v h6 ⟨rfl,k6⟩
      simp only [castBool_bool]
      exact To2.some rfl
    · have z0:((readP text).2 != 0) = true := by simpa using z
      simp only [z0,cB_true]
      exact To2.some rfl
theorem shape {H:Type} {d0 d1:DataW H} {u0 u1:List V} (hsz:(DataW.weightsEach Try.prog [9,9] [d0,d1]).all (· ≤ reachBytes) = true) (h0:dV Try.prog d0 9 = some u0) (h1:dV Try.prog d1 9 = some u1) :
    ∃ y0 y1,u0 = [y0] ∧ u1 = [y1] ∧ CE Try.prog 3 [y0,y1] [] fun v _ => v = .bool true := by
  obtain ⟨t,rfl⟩ := dV_str Try.underlying9 h0
  obtain ⟨n,rfl⟩ := dV_str Try.underlying9 h1
  have hn := str_sized Try.underlying9 h1 (wt_param hsz (j := 1) rfl rfl)
  obtain ⟨D,G⟩ := read_gm t
  obtain ⟨u,h',e,q⟩ := law3 (lf := 5000001 + D + n.length) (D := D) (text := t) (note := n) (h := []) (by omega) (by omega) G (by omega) (by omega)
  exact ⟨_,_,rfl,rfl,(W3_ok _ [.str t,.str n] [] u h' e).2.mono fun v2 h2 z => by rw [z.1]; exact q⟩
end Go.Proofs.Ytjpjeilfmjdhcaa.Ps
