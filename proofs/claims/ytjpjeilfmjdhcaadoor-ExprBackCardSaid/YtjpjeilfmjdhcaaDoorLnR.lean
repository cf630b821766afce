/- The lexer: a text's words; the awake call. No condition. -/
import Derived.Test.YtjpjeilfmjdhcaaDoorLnQ
import Derived.KernelRfl
namespace Go.Proofs.YtjpjeilfmjdhcaaDoor.Ln
open Go Go.Proofs.YtjpjeilfmjdhcaaDoor.E
set_option maxRecDepth 100000
set_option linter.unusedVariables false
set_option linter.unusedSimpArgs false
def blankP (r:Int):Bool := r == 32 || (r == 9 || r == 10)
/-- What is done at a character. -/
def stepP (t:List UInt8) (sk:Nat) (nt:Bool) (ws:List Wd):Nat × Bool × (List Wd × Int) :=
  if nt = true then (if ((dc t).1:Int) = 10 then (sk,false,(ws,0)) else (1,true,(ws,0)))
  else if 0 < sk then (sk,false,(ws,0))
  else if blankP (dc t).1 = true then (0,false,(ws,0))
  else if preP t [45,45] = true then (1,true,(ws,0))
  else if (((dc t).1:Int) == 65533 && !preP t [239,191,189]) = true then (0,false,(ws,3))
  else ((wordP (dc t).1 t ws 0).1,false,(wordP (dc t).1 t ws 0).2)
def finP (ws:List Wd) (e:Int):Option (List Wd) × Int := if e = 0 then (some ws,0) else (none,e)
def scan:Nat → List UInt8 → Nat → Bool → List Wd → Int → Option (List Wd) × Int
  | 0,_,_,_,ws,e => finP ws e
  | m + 1,t,sk,nt,ws,e => if t = [] then finP ws e else if e ≠ 0 then (none,e) else
      scan m (t.drop (dc t).2) ((stepP t sk nt ws).1 - (dc t).2) (stepP t sk nt ws).2.1 (stepP t sk nt ws).2.2.1 (stepP t sk nt ws).2.2.2
def wordsP (s:List UInt8):Option (List Wd) × Int := if 4000 < s.length then (none,5) else scan s.length s 0 false [] 0
theorem blank21 (lf:Nat) (r:Int) (h:List Ob):S13_1 lf r h = some (.normal,[.bool (blankP r)],h) := by
  unfold S13_1 blankP
  cases c1:(r == 32) <;> cases c2:(r == 9) <;> rfl
theorem badr21 (lf:Nat) {s:List UInt8} {pos:Nat} (hp:pos ≤ s.length) (r:Int) (h:List Ob):S13_0 lf s pos r h = some (.normal,[.bool (r == 65533 && !preP (s.drop pos) [239,191,189])],h) := by
  unfold S13_0
  cases c1:(r == 65533) with
  | false => rfl
  | true => simp only [cB_true,er_slcS_from hp,bind1_some,castStr_str,pre56,bind2_some,castBool_bool,Bool.true_and]
theorem step21 {lf:Nat} {h:List Ob} {id:Nat} {s0 s:List UInt8} {wv:V} {ws:List Wd} {pos:Nat} {behind:Int} {nt:Bool} (q:Scn h id s0 wv ws 0) (hs:s.length ≤ 4000) (hp:pos < s.length) (hws:ws.length ≤ 600) (hf:4010 < lf) (hb:behind ≤ 10000) :
    To3 (S13_2 lf s (.ptr id 0 0) behind nt pos ((dc (s.drop pos)).1:Int) h) fun x vs h' => x = .normal ∧ ∃ b' nt',vs = [.int .i64 b',.bool nt'] ∧ nt' = (stepP (s.drop pos) (behind - pos).toNat nt ws).2.1 ∧ ((if nt' = true then (pos:Int) + 1 else b') - pos).toNat = (stepP (s.drop pos) (behind - pos).toNat nt ws).1 ∧ b' ≤ 10000 ∧
      ScnTo h id s0 wv (stepP (s.drop pos) (behind - pos).toNat nt ws).2.2 h' := by
  have nk := q.st.nilck 0 0
  have f2 := q.st.faddr 2 0 0
  have l2:er (.load1 (.c (.ptr id 0 2))) h = some (.int .i64 0) := q.st.load1 rfl
  simp only [Nat.zero_add] at f2
  have hne := drop_ne hp
  have same:ScnTo h id s0 wv (ws,0) h := ⟨wv,q,Kp.refl _ _,fun j hj => .inl hj⟩
  have one:(((pos:Int) + 1) - pos).toNat = 1 := by omega
  unfold stepP
  simp only [S13_2,nk,f2,l2,bind1_some,castInt_int,bne_self_eq_false,cB_false]
  cases nt with
  | true =>
    simp only [cB_true,if_true]
    by_cases c:((dc (s.drop pos)).1:Int) = 10
    · have e:(((dc (s.drop pos)).1:Int) != 10) = false := by simp [c]
      rw [e,if_pos c]
      exact To3.some ⟨rfl,_,_,rfl,rfl,by simp,hb,same⟩
    · have e:(((dc (s.drop pos)).1:Int) != 10) = true := by simpa using c
      rw [e,if_neg c]
      exact To3.some ⟨rfl,_,_,rfl,rfl,by simp only [if_true,one],hb,same⟩
  | false =>
    simp only [cB_false,Bool.false_eq_true,if_false]
    by_cases c0:(pos:Int) < behind
    · rw [decide_eq_true c0,cB_true,if_pos (by omega)]
      exact To3.some ⟨rfl,_,_,rfl,rfl,by simp,hb,same⟩
    · rw [decide_eq_false c0,cB_false,if_neg (by omega),blank21,bind3_some]
      simp only [decide_true,cB_true,castCons_cons,castBool_bool,castNil_nil]
      by_cases c1:blankP ((dc (s.drop pos)).1:Int) = true
      · rw [c1,cB_true,if_pos rfl]
        exact To3.some ⟨rfl,_,_,rfl,rfl,by simp; omega,hb,same⟩
      · simp only [Bool.not_eq_true] at c1
        rw [c1,cB_false,if_neg (by decide),er_slcS_from (Nat.le_of_lt hp),bind1_some,castStr_str,pre56,bind2_some,castBool_bool]
        by_cases c2:preP (s.drop pos) [45,45] = true
        · rw [c2,cB_true,if_pos rfl]
          exact To3.some ⟨rfl,_,_,rfl,rfl,by simp only [if_true,one],hb,same⟩
        · simp only [Bool.not_eq_true] at c2
          rw [c2,cB_false,if_neg (by decide),badr21 lf (Nat.le_of_lt hp),bind3_some]
          simp only [decide_true,cB_true,castCons_cons,castBool_bool,castNil_nil]
          by_cases c3:(((dc (s.drop pos)).1:Int) == 65533 && !preP (s.drop pos) [239,191,189]) = true
          · rw [c3,cB_true,if_pos rfl]
            simp only [nk,f2,bind1_some]
            refine To3.bind2 (q.err 3) ?_
            rintro u h1 ⟨q1,k1⟩
            exact To3.some ⟨rfl,_,_,rfl,rfl,by simp; omega,hb,wv,q1,k1.mono (fun j hj _ => by simp at hj; simp [hj]),fun j hj => .inl hj⟩
          · simp only [Bool.not_eq_true] at c3
            rw [c3,cB_false,if_neg (by decide),er_slcS_from (Nat.le_of_lt hp),bind1_some,castStr_str]
            refine To3.bind2 (word57 q (by simp; omega) hne hws hf) ?_
            rintro u h1 ⟨rfl,r⟩
            have hn := wordP_n (dc (s.drop pos)).1 (s.drop pos) ws 0 hne
            simp only [List.length_drop] at hn
            have w1:IntKind.i64.wrap ((pos:Int) + (((wordP (dc (s.drop pos)).1 (s.drop pos) ws 0).1:Nat):Int)) = (pos:Int) + (((wordP (dc (s.drop pos)).1 (s.drop pos) ws 0).1:Nat):Int) := wrap_i64 (by omega) (by omega)
            simp only [castInt_int,w1]
            exact To3.some ⟨rfl,_,_,rfl,rfl,by simp only [Bool.false_eq_true,if_false]; omega,by omega,r⟩
theorem stepP_len (t:List UInt8) (sk:Nat) (nt:Bool) (ws:List Wd) (h:ws.length ≤ 600):(stepP t sk nt ws).2.2.1.length ≤ 600 := by
  unfold stepP
  repeat' split
  all_goals first | exact h | exact wordP_len _ _ _ _ h
theorem scanL (lf:Nat) (hf0:4010 < lf) {H0:List Ob} {id iid:Nat} {s:List UInt8} (hs:s.length ≤ 4000) (hid:H0.length ≤ id) (hiid:H0.length ≤ iid) (hne:iid ≠ id):∀ (m pos f:Nat) (h:List Ob) (wv:V) (ws:List Wd) (e:Int) (behind:Int) (nt:Bool),(s.drop pos).length ≤ m → m < f → pos ≤ s.length → behind ≤ 10000 → ws.length ≤ 600 →
    Kp H0 h [] → Si h iid s pos → Scn h id s wv ws e → (∀ j,j ∈ idsOf wv → H0.length ≤ j ∧ j ≠ iid) →
    To3 (L13_3 lf f s (.ptr id 0 0) behind nt (.ptr iid 0 0) h) fun x vs h' => Kp H0 h' [] ∧ match scan m (s.drop pos) (behind - pos).toNat nt ws e with
      | (some ws',_) => x = .exit 0 ∧ vs = [] ∧ ∃ wv',Scn h' id s wv' ws' 0 ∧ ∀ j,j ∈ idsOf wv' → H0.length ≤ j
      | (none,e') => e' ≠ 0 ∧ ((x = .exit 0 ∧ vs = [] ∧ ∃ wv' ws',Scn h' id s wv' ws' e') ∨ (x = .ret ∧ vs = [.nils,.int .i64 e'])) := by
  intro m
  have fin:∀ {h:List Ob} {wv:V} {ws:List Wd} {e:Int},Kp H0 h [] → Scn h id s wv ws e → (∀ j,j ∈ idsOf wv → H0.length ≤ j ∧ j ≠ iid) → Kp H0 h [] ∧ match finP ws e with
      | (some ws',_) => EX.exit 0 = .exit 0 ∧ ([]:List V) = [] ∧ ∃ wv',Scn h id s wv' ws' 0 ∧ ∀ j,j ∈ idsOf wv' → H0.length ≤ j
      | (none,e') => e' ≠ 0 ∧ ((EX.exit 0 = .exit 0 ∧ ([]:List V) = [] ∧ ∃ wv' ws',Scn h id s wv' ws' e') ∨ (EX.exit 0 = .ret ∧ ([]:List V) = [.nils,.int .i64 e'])) := by
    intro h wv ws e k q hj
    refine ⟨k,?_⟩
    unfold finP
    by_cases z:e = 0
    · subst z
      rw [if_pos rfl]
      exact ⟨rfl,rfl,wv,q,fun j hh => (hj j hh).1⟩
    · rw [if_neg z]
      exact ⟨z,.inl ⟨rfl,rfl,wv,ws,q⟩⟩
  induction m with
  | zero =>
    intro pos f h wv ws e behind nt hm hf hp hb hws k si q hj
    obtain ⟨f,rfl⟩:∃ g,f = g + 1 := ⟨f - 1,by omega⟩
    simp only [List.length_drop] at hm
    have e0:er (.ext 0 (.c (.tup [.bool false]))) h = some (.bool false) := er_ext rfl
    simp only [L13_3,B13_3,nextS_end si (by omega),bind2_some,e0,bind1_some,castBool_bool,cB_false]
    exact To3.some (fin k q hj)
  | succ m ih =>
    intro pos f h wv ws e behind nt hm hf hp hb hws k si q hj
    obtain ⟨f,rfl⟩:∃ g,f = g + 1 := ⟨f - 1,by omega⟩
    simp only [List.length_drop] at hm
    by_cases c:pos < s.length
    · have hne' := drop_ne c
      have hw := dc_width _ hne'
      simp only [List.length_drop] at hw
      simp only [L13_3,B13_3]
      refine To3.bind2 (nextS_to si c) ?_
      rintro v h1 ⟨rfl,si1,k1⟩
      have q1 := q.keep k1 (by simp; exact fun z => hne z.symm) (fun j hh => by simp; exact (hj j hh).2)
      have kk1:Kp H0 h1 [] := k.trans k1 (fun j hj => by cases hj) (fun j hj hl => by simp at hj; omega)
      rw [er_ext (v := .bool true) rfl,bind1_some,castBool_bool,cB_true,er_ext (v := .int .i64 (pos:Int)) rfl,bind1_some,castInt_int,er_ext (v := .int .i32 ((dc (s.drop pos)).1:Int)) rfl,bind1_some,castInt_int]
      rw [scan,if_neg hne']
      by_cases z:e = 0
      · subst z
        rw [if_neg (fun x => x rfl)]
        refine To3.bind3 (step21 (nt := nt) q1 hs c hws hf0 hb) ?_
        rintro x vs h2 ⟨rfl,b',nt',rfl,ent,esk,hb',wv',q2,k2,f2⟩
        have hlt1 := k1.len
        have hsi := si.lt
        have si2 := si1.keep k2 (fun hh => by
          rcases List.mem_cons.1 hh with z | z
          · exact hne z
          · exact (hj _ z).2 rfl)
        have kk2:Kp H0 h2 [] := kk1.trans k2 (fun j hj => by cases hj) (fun j hh hl => by
          rcases List.mem_cons.1 hh with z | z
          · omega
          · have := (hj j z).1; omega)
        have hj2:∀ j,j ∈ idsOf wv' → H0.length ≤ j ∧ j ≠ iid := fun j hh => by
          have := k.len
          rcases f2 j hh with z | z
          · exact hj j z
          · exact ⟨by omega,by omega⟩
        have hl2 := stepP_len (s.drop pos) (behind - pos).toNat nt ws hws
        have w1:IntKind.i64.wrap ((pos:Int) + 1) = (pos:Int) + 1 := wrap_i64 (by omega) (by omega)
        simp only [show decide (EX.normal = EX.ret) = false from rfl,cB_false,decide_true,cB_true,castCons_cons,castInt_int,castBool_bool,castNil_nil,w1]
        have next := ih (pos + (dc (s.drop pos)).2) f h2 wv' _ _ (if nt' = true then (pos:Int) + 1 else b') nt' (by simp only [List.length_drop]; omega) (by omega) (by omega) (by split <;> omega) hl2 kk2 si2 q2 hj2
        have esk2:((if nt' = true then (pos:Int) + 1 else b') - ((pos + (dc (s.drop pos)).2:Nat):Int)).toNat = (stepP (s.drop pos) (behind - pos).toNat nt ws).1 - (dc (s.drop pos)).2 := by
          rw [← esk]; omega
        rw [esk2,← List.drop_drop,ent] at next
        rw [← ent] at next
        cases hnt:nt' with
        | true =>
          rw [hnt] at next ent
          rw [← ent]
          simp only [cB_true]
          simpa using next
        | false =>
          rw [hnt] at next ent
          rw [← ent]
          simp only [cB_false]
          simpa using next
      · rw [if_pos z]
        have nk := q1.st.nilck 0 0
        have f2 := q1.st.faddr 2 0 0
        have l2:er (.load1 (.c (.ptr id 0 2))) h1 = some (.int .i64 e) := q1.st.load1 rfl
        simp only [Nat.zero_add] at f2
        have ez:(e != 0) = true := by simpa using z
        have hS:∀ bb nn ii rr,S13_2 lf s (.ptr id 0 0) bb nn ii rr h1 = some (.ret,[.nils,.int .i64 e],h1) := fun bb nn ii rr => by
          simp only [S13_2,nk,f2,l2,bind1_some,castInt_int,ez,cB_true]
        rw [hS,bind3_some]
        simp only [decide_true,cB_true,castCons_cons,castInt_int,castNil_nil]
        exact To3.some ⟨kk1,z,.inr ⟨rfl,rfl⟩⟩
    · have e0:er (.ext 0 (.c (.tup [.bool false]))) h = some (.bool false) := er_ext rfl
      have hd:s.drop pos = [] := List.drop_of_length_le (by omega)
      simp only [L13_3,B13_3,nextS_end si (by omega),bind2_some,e0,bind1_some,castBool_bool,cB_false]
      rw [hd,scan,if_pos rfl]
      exact To3.some (fin k q hj)
theorem words21 {lf:Nat} (hf0:4010 < lf) {h:List Ob} {s:List UInt8}:To2 (F13 lf s h) fun v h' => Kp h h' [] ∧ match wordsP s with
    | (some ws,_) => ∃ wv,v = .tup [wv,.int .i64 0] ∧ Sl 3 h' wv (rowsW ws) ∧ Ap wv ∧ (∀ j,j ∈ idsOf wv → h.length ≤ j)
    | (none,e) => v = .tup [.nils,.int .i64 e] ∧ e ≠ 0 := by
  simp only [F13]
  unfold wordsP
  by_cases c:4000 < s.length
  · rw [decide_eq_true (by omega),cB_true,if_pos c]
    exact To2.some ⟨Kp.refl _ _,rfl,by decide⟩
  · have eb:er (.build [(.str []),.nils,(.int .i64 0)] [(0,(1,(.c (.str s))))]) h = some (.agg [.str s,.nils,.int .i64 0]) := rfl
    rw [decide_eq_false (by omega),cB_false,if_neg c]
    simp only [eb,bind1_some,castAgg_agg,castCons_cons,castStr_str,castInt_int,castNil_nil]
    refine To2.bind2 (box_to (cs := [.str s,.nils,.int .i64 0]) rfl) ?_
    rintro p h1 ⟨rfl,st1,k1⟩
    refine To2.bind2 (rangeS_to h1 s) ?_
    rintro p h2 ⟨rfl,si2,k2⟩
    have q2:Scn h2 h.length s .nils [] 0 := ⟨st1.kp k2,Sl.nils _ _,Ap.nils,by simp [idsOf]⟩
    have hl1 := st1.lt
    have hL := scanL lf hf0 (H0 := h) (id := h.length) (iid := h1.length) (s := s) (by omega) (Nat.le_refl _) (by omega) (by omega) s.length 0 lf h2 .nils [] 0 0 false (by simp) (by omega) (by omega) (by omega) (by simp) (k1.tr k2) si2 q2 (fun j hj => by cases hj)
    have z:((0:Nat):Int) = 0 := rfl
    rw [List.drop_zero,z,show ((0:Int) - 0).toNat = 0 from rfl] at hL
    refine To2.bind3 hL ?_
    rintro x vs h3 ⟨k3,r⟩
    cases e:scan s.length s 0 false [] 0 with
    | mk o e' =>
      cases o with
      | some ws =>
        rw [e] at r
        obtain ⟨rfl,rfl,wv,q3,fj⟩ := r
        have nk := q3.st.nilck 0 0
        have f2 := q3.st.faddr 2 0 0
        have f1 := q3.st.faddr 1 0 0
        have l2:er (.load1 (.c (.ptr h.length 0 2))) h3 = some (.int .i64 0) := q3.st.load1 rfl
        have l1:er (.load1 (.c (.ptr h.length 0 1))) h3 = some wv := q3.st.load1 rfl
        simp only [Nat.zero_add] at f1 f2
        simp only [decide_true,cB_true,castNil_nil,nk,f1,f2,l1,l2,bind1_some,castInt_int,bne_self_eq_false,cB_false]
        exact To2.some ⟨k3,wv,rfl,q3.sl,q3.ap,fj⟩
      | none =>
        rw [e] at r
        obtain ⟨hz,⟨rfl,rfl,wv,ws,q3⟩ | ⟨rfl,rfl⟩⟩ := r
        · have nk := q3.st.nilck 0 0
          have f2 := q3.st.faddr 2 0 0
          have l2:er (.load1 (.c (.ptr h.length 0 2))) h3 = some (.int .i64 e') := q3.st.load1 rfl
          have ez:(e' != 0) = true := by simpa using hz
          simp only [Nat.zero_add] at f2
          simp only [decide_true,cB_true,castNil_nil,nk,f2,l2,bind1_some,castInt_int,ez]
          exact To2.some ⟨k3,rfl,hz⟩
        · simp only [show decide (EX.ret = EX.exit 0) = false from rfl,cB_false,decide_true,cB_true,castCons_cons,castInt_int,castNil_nil]
          exact To2.some ⟨k3,rfl,hz⟩
end Go.Proofs.YtjpjeilfmjdhcaaDoor.Ln
