/- The lexer: letters, digits; how far a name goes; names; numbers. No condition. -/
import Derived.Test.YtjpjeilfmjdhcaaDoorLns
import Derived.Test.YtjpjeilfmjdhcaaDoorL4
namespace Go.Proofs.YtjpjeilfmjdhcaaDoor.Ln
open Go Go.Proofs.YtjpjeilfmjdhcaaDoor.E
set_option maxRecDepth 100000
set_option linter.unusedVariables false
set_option linter.unusedSimpArgs false
def letterP (r:Int):Bool := (decide (r ≥ 97) && decide (r ≤ 122)) || (decide (r ≥ 65) && decide (r ≤ 90)) || (decide (r ≥ 945) && decide (r ≤ 969)) || (r == 95)
def digitP (r:Int):Bool := decide (r ≥ 48) && decide (r ≤ 57)
theorem let28 (lf:Nat) (r:Int) (h:List Ob):F34 lf r h = some (.bool (letterP r),h) := by
  unfold F34 letterP
  generalize decide (r ≥ 97) = b1
  generalize decide (r ≤ 122) = b2
  generalize decide (r ≥ 65) = b3
  generalize decide (r ≤ 90) = b4
  generalize decide (r ≥ 945) = b5
  generalize decide (r ≤ 969) = b6
  generalize (r == 95) = b7
  cases b1 <;> cases b2 <;> cases b3 <;> cases b4 <;> cases b5 <;> cases b6 <;> cases b7 <;> rfl
theorem dig83 (lf:Nat) (r:Int) (h:List Ob):F38 lf r h = some (.bool (digitP r),h) := by
  unfold F38 digitP
  generalize decide (r ≥ 48) = b1
  generalize decide (r ≤ 57) = b2
  cases b1 <;> cases b2 <;> rfl
/-- Does a text begin with another one? -/
def preP (s p:List UInt8):Bool := decide (p.length ≤ s.length) && (s.take p.length == p)
theorem pre56 (lf:Nat) (s p:List UInt8) (h:List Ob):F23 lf s p h = some (.bool (preP s p),h) := by
  unfold F23 F32 preP
  by_cases q:p.length ≤ s.length
  · have e:decide ((s.length:Int) ≥ (p.length:Int)) = true := decide_eq_true (by omega)
    simp only [e,cB_true,er_slcS_to q,bind1_some,castStr_str,bind2_some,castBool_bool,decide_eq_true q,Bool.true_and]
  · have e:decide ((s.length:Int) ≥ (p.length:Int)) = false := decide_eq_false (by omega)
    simp only [e,cB_false,bind2_some,castBool_bool,decide_eq_false q,Bool.false_and]
/-! ### How far letters and digits go -/
def runP:Nat → List UInt8 → Nat
  | 0,_ => 0
  | m + 1,t => if t = [] then 0 else if letterP (dc t).1 || digitP (dc t).1 then (dc t).2 + runP m (t.drop (dc t).2) else 0
theorem runP_le:∀ (m:Nat) (t:List UInt8),runP m t ≤ t.length
  | 0,t => Nat.zero_le _
  | m + 1,t => by
    unfold runP
    split
    · exact Nat.zero_le _
    · rename_i q
      split
      · have := runP_le m (t.drop (dc t).2)
        have := dc_width t q
        simp only [List.length_drop] at *
        omega
      · exact Nat.zero_le _
theorem drop_ne {s:List UInt8} {pos:Nat} (h:pos < s.length):s.drop pos ≠ [] := by
  intro q
  have := congrArg List.length q
  simp at this; omega
theorem runL (lf:Nat) {s:List UInt8} {id:Nat}:∀ (m pos f:Nat) (h:List Ob),(s.drop pos).length ≤ m → m < f → pos ≤ s.length → Si h id s pos →
    To3 (L35_0 lf f (.ptr id 0 0) h) fun x vs h' => Kp h h' [id] ∧ ((x = .exit 0 ∧ vs = [] ∧ pos + runP m (s.drop pos) = s.length) ∨ (x = .ret ∧ vs = [.int .i64 ((pos + runP m (s.drop pos):Nat):Int)])) := by
  intro m
  induction m with
  | zero =>
    intro pos f h hm hf hp st
    obtain ⟨f,rfl⟩:∃ g,f = g + 1 := ⟨f - 1,by omega⟩
    simp only [List.length_drop] at hm
    have e0:er (.ext 0 (.c (.tup [.bool false]))) h = some (.bool false) := er_ext rfl
    simp only [L35_0,B35_0,nextS_end st (by omega),bind2_some,e0,bind1_some,castBool_bool,cB_false]
    exact To3.some ⟨Kp.refl _ _,.inl ⟨rfl,rfl,by unfold runP; omega⟩⟩
  | succ m ih =>
    intro pos f h hm hf hp st
    obtain ⟨f,rfl⟩:∃ g,f = g + 1 := ⟨f - 1,by omega⟩
    simp only [List.length_drop] at hm
    by_cases q:pos < s.length
    · have hne := drop_ne q
      simp only [L35_0,B35_0]
      refine To3.bind2 (nextS_to st q) ?_
      rintro v h1 ⟨rfl,st1,k1⟩
      rw [er_ext (v := .bool true) rfl,bind1_some,castBool_bool,cB_true,er_ext (v := .int .i64 (pos:Int)) rfl,bind1_some,castInt_int,er_ext (v := .int .i32 ((dc (s.drop pos)).1:Int)) rfl,bind1_some,castInt_int]
      have hw := dc_width _ hne
      simp only [List.length_drop] at hw
      have next:To3 (L35_0 lf f (.ptr id 0 0) h1) fun x vs h' => Kp h h' [id] ∧ ((x = .exit 0 ∧ vs = [] ∧ pos + ((dc (s.drop pos)).2 + runP m ((s.drop pos).drop (dc (s.drop pos)).2)) = s.length) ∨ (x = .ret ∧ vs = [.int .i64 ((pos + ((dc (s.drop pos)).2 + runP m ((s.drop pos).drop (dc (s.drop pos)).2)):Nat):Int)])) := by
        refine (ih (pos + (dc (s.drop pos)).2) f h1 (by simp only [List.length_drop]; omega) (by omega) (by omega) st1).mono ?_
        rintro x vs h2 ⟨k2,r⟩
        refine ⟨k1.trans k2 (fun j hj _ => hj) (fun j hj _ => hj),?_⟩
        rw [List.drop_drop,← Nat.add_assoc]
        exact r
      simp only [let28,dig83,bind2_some,castBool_bool]
      rw [runP,if_neg hne]
      cases c1:letterP ((dc (s.drop pos)).1:Int) with
      | true =>
        simp only [Bool.not_true,cB_false,Bool.true_or,if_true]
        exact next
      | false =>
        cases c2:digitP ((dc (s.drop pos)).1:Int) with
        | true =>
          simp only [Bool.not_true,Bool.not_false,cB_false,cB_true,Bool.or_true,if_true]
          exact next
        | false =>
          simp only [Bool.not_false,cB_true,Bool.or_false,Bool.false_eq_true,if_false]
          exact To3.some ⟨k1,.inr ⟨rfl,rfl⟩⟩
    · have e0:er (.ext 0 (.c (.tup [.bool false]))) h = some (.bool false) := er_ext rfl
      have hd:s.drop pos = [] := List.drop_of_length_le (by omega)
      simp only [L35_0,B35_0,nextS_end st (by omega),bind2_some,e0,bind1_some,castBool_bool,cB_false]
      exact To3.some ⟨Kp.refl _ _,.inl ⟨rfl,rfl,by rw [hd,runP,if_pos rfl]; omega⟩⟩
theorem run81 {lf:Nat} {s:List UInt8} {h:List Ob} (hf:s.length < lf):To2 (F35 lf s h) fun v h' => v = .int .i64 ((runP s.length s:Nat):Int) ∧ Kp h h' [] := by
  simp only [F35]
  refine To2.bind2 (rangeS_to h s) ?_
  rintro v h1 ⟨rfl,st,k1⟩
  refine To2.bind3 (runL lf s.length 0 lf h1 (by simp) hf (by omega) st) ?_
  rintro x vs h2 ⟨k2,⟨rfl,rfl,e⟩ | ⟨rfl,rfl⟩⟩
  · have kk:Kp h h2 [] := k1.trans k2 (fun j hj => by cases hj) (fun j hj hl => by simp at hj; omega)
    simp only [decide_true,cB_true,castNil_nil]
    simp only [List.drop_zero,Nat.zero_add] at e
    exact To2.some ⟨by rw [e],kk⟩
  · have kk:Kp h h2 [] := k1.trans k2 (fun j hj => by cases hj) (fun j hj hl => by simp at hj; omega)
    simp only [show decide (EX.ret = EX.exit 0) = false from rfl,cB_false,decide_true,cB_true,castCons_cons,castInt_int,castNil_nil,List.drop_zero,Nat.zero_add]
    exact To2.some ⟨rfl,kk⟩
/-! ### Names -/
def nmP:Nat → Nat → List UInt8 → Option Nat
  | 0,n,_ => some n
  | m + 1,n,t => if t = [] then some n else if letterP (dc t).1 || (n != 0 && digitP (dc t).1) then nmP m (n + 1) (t.drop (dc t).2) else none
def namedP (s:List UInt8):Bool := match nmP s.length 0 s with
  | some n => decide (0 < n) && decide (n ≤ 16)
  | none => false
theorem nmL (lf:Nat) {s:List UInt8} {id:Nat} (hs:s.length ≤ 4611686018427387904):∀ (m pos n f:Nat) (h:List Ob),(s.drop pos).length ≤ m → m < f → pos ≤ s.length → n ≤ pos → Si h id s pos →
    To3 (L37_0 lf f n (.ptr id 0 0) h) fun x vs h' => Kp h h' [id] ∧ match nmP m n (s.drop pos) with
      | some k => x = .exit 0 ∧ vs = [.int .i64 (k:Int)]
      | none => x = .ret ∧ vs = [.bool false] := by
  intro m
  induction m with
  | zero =>
    intro pos n f h hm hf hp hn st
    obtain ⟨f,rfl⟩:∃ g,f = g + 1 := ⟨f - 1,by omega⟩
    simp only [List.length_drop] at hm
    have e0:er (.ext 0 (.c (.tup [.bool false]))) h = some (.bool false) := er_ext rfl
    simp only [L37_0,B37_0,nextS_end st (by omega),bind2_some,e0,bind1_some,castBool_bool,cB_false]
    exact To3.some ⟨Kp.refl _ _,rfl,rfl⟩
  | succ m ih =>
    intro pos n f h hm hf hp hn st
    obtain ⟨f,rfl⟩:∃ g,f = g + 1 := ⟨f - 1,by omega⟩
    simp only [List.length_drop] at hm
    by_cases q:pos < s.length
    · have hne := drop_ne q
      simp only [L37_0,B37_0]
      refine To3.bind2 (nextS_to st q) ?_
      rintro v h1 ⟨rfl,st1,k1⟩
      rw [er_ext (v := .bool true) rfl,bind1_some,castBool_bool,cB_true,er_ext (v := .int .i32 ((dc (s.drop pos)).1:Int)) rfl,bind1_some,castInt_int]
      have hw := dc_width _ hne
      simp only [List.length_drop] at hw
      have w1:IntKind.i64.wrap ((n:Int) + 1) = ((n + 1:Nat):Int) := by rw [wrap_i64 (by omega) (by omega)]; omega
      have next:To3 (L37_0 lf f ((n + 1:Nat):Int) (.ptr id 0 0) h1) fun x vs h' => Kp h h' [id] ∧ match nmP m (n + 1) ((s.drop pos).drop (dc (s.drop pos)).2) with
          | some k => x = .exit 0 ∧ vs = [.int .i64 (k:Int)]
          | none => x = .ret ∧ vs = [.bool false] := by
        refine (ih (pos + (dc (s.drop pos)).2) (n + 1) f h1 (by simp only [List.length_drop]; omega) (by omega) (by omega) (by omega) st1).mono ?_
        rintro x vs h2 ⟨k2,r⟩
        refine ⟨k1.trans k2 (fun j hj _ => hj) (fun j hj _ => hj),?_⟩
        rw [List.drop_drop]
        exact r
      simp only [let28,dig83,bind2_some,castBool_bool,w1]
      rw [nmP,if_neg hne]
      cases c1:letterP ((dc (s.drop pos)).1:Int) with
      | true =>
        simp only [Bool.not_true,cB_false,Bool.true_or,if_true]
        exact next
      | false =>
        simp only [Bool.not_false,cB_true,Bool.false_or]
        by_cases z:n = 0
        · have e1:((n:Int) == 0) = true := by simp [z]
          have e2:(n != 0) = false := by simp [z]
          simp only [e1,cB_true,e2,Bool.false_and,Bool.false_eq_true,if_false]
          exact To3.some ⟨k1,rfl,rfl⟩
        · have e1:((n:Int) == 0) = false := by
            have:(n:Int) ≠ 0 := by omega
            simpa using this
          have e2:(n != 0) = true := by simp [z]
          cases c2:digitP ((dc (s.drop pos)).1:Int) with
          | true =>
            simp only [e1,e2,Bool.not_true,cB_false,Bool.true_and,if_true]
            exact next
          | false =>
            simp only [e1,e2,Bool.not_false,cB_true,cB_false,Bool.and_false,Bool.false_eq_true,if_false]
            exact To3.some ⟨k1,rfl,rfl⟩
    · have e0:er (.ext 0 (.c (.tup [.bool false]))) h = some (.bool false) := er_ext rfl
      have hd:s.drop pos = [] := List.drop_of_length_le (by omega)
      simp only [L37_0,B37_0,nextS_end st (by omega),bind2_some,e0,bind1_some,castBool_bool,cB_false]
      refine To3.some ⟨Kp.refl _ _,?_⟩
      rw [hd,nmP,if_pos rfl]
      exact ⟨rfl,rfl⟩
theorem named58 {lf:Nat} {s:List UInt8} {h:List Ob} (hf:s.length < lf) (hs:s.length ≤ 4611686018427387904):To2 (F37 lf s h) fun v h' => v = .bool (namedP s) ∧ Kp h h' [] := by
  simp only [F37]
  refine To2.bind2 (rangeS_to h s) ?_
  rintro v h1 ⟨rfl,st,k1⟩
  have hL := nmL lf hs s.length 0 0 lf h1 (by simp) hf (by omega) (by omega) st
  have z:((0:Nat):Int) = 0 := rfl
  rw [z] at hL
  refine To2.bind3 hL ?_
  rintro x vs h2 ⟨k2,r⟩
  have kk:Kp h h2 [] := k1.trans k2 (fun j hj => by cases hj) (fun j hj hl => by simp at hj; omega)
  unfold namedP
  rw [List.drop_zero] at r
  cases e:nmP s.length 0 s with
  | some n =>
    rw [e] at r
    obtain ⟨rfl,rfl⟩ := r
    simp only [decide_true,cB_true,castCons_cons,castInt_int,castNil_nil]
    by_cases q:0 < n
    · have e1:decide ((n:Int) > 0) = true := decide_eq_true (by omega)
      have e2:decide ((n:Int) ≤ 16) = decide (n ≤ 16) := decide_eq_decide.2 (by omega)
      simp only [e1,cB_true,e2,decide_eq_true q,Bool.true_and]
      exact To2.some ⟨rfl,kk⟩
    · have e1:decide ((n:Int) > 0) = false := decide_eq_false (by omega)
      simp only [e1,cB_false,decide_eq_false q,Bool.false_and]
      exact To2.some ⟨rfl,kk⟩
  | none =>
    rw [e] at r
    obtain ⟨rfl,rfl⟩ := r
    simp only [show decide (EX.ret = EX.exit 0) = false from rfl,cB_false,decide_true,cB_true,castCons_cons,castBool_bool,castNil_nil]
    exact To2.some ⟨rfl,kk⟩
/-! ### Numbers -/
def vlP:Nat → Int → List UInt8 → Option Int
  | 0,n,_ => some n
  | m + 1,n,t => if t = [] then some n else if digitP (dc t).1 then (if n > 922337203685477580 then none else vlP m (IntKind.u64.wrap (IntKind.u64.wrap (10 * n) + IntKind.u64.wrap (IntKind.i32.wrap ((dc t).1 - 48)))) (t.drop (dc t).2)) else none
def valueP (s:List UInt8):Int × Bool := match vlP s.length 0 s with
  | some n => (IntKind.i64.wrap n,decide (n ≤ 9223372036854775807) && (s == [48] || s.head? != some 48))
  | none => (0,false)
theorem vlL (lf:Nat) {s:List UInt8} {id:Nat}:∀ (m pos f:Nat) (n:Int) (h:List Ob),(s.drop pos).length ≤ m → m < f → pos ≤ s.length → Si h id s pos →
    To3 (L39_0 lf f n (.ptr id 0 0) h) fun x vs h' => Kp h h' [id] ∧ match vlP m n (s.drop pos) with
      | some k => x = .exit 0 ∧ vs = [.int .u64 k]
      | none => x = .ret ∧ vs = [.int .i64 0,.bool false] := by
  intro m
  induction m with
  | zero =>
    intro pos f n h hm hf hp st
    obtain ⟨f,rfl⟩:∃ g,f = g + 1 := ⟨f - 1,by omega⟩
    simp only [List.length_drop] at hm
    have e0:er (.ext 0 (.c (.tup [.bool false]))) h = some (.bool false) := er_ext rfl
    simp only [L39_0,B39_0,nextS_end st (by omega),bind2_some,e0,bind1_some,castBool_bool,cB_false]
    exact To3.some ⟨Kp.refl _ _,rfl,rfl⟩
  | succ m ih =>
    intro pos f n h hm hf hp st
    obtain ⟨f,rfl⟩:∃ g,f = g + 1 := ⟨f - 1,by omega⟩
    simp only [List.length_drop] at hm
    by_cases q:pos < s.length
    · have hne := drop_ne q
      simp only [L39_0,B39_0]
      refine To3.bind2 (nextS_to st q) ?_
      rintro v h1 ⟨rfl,st1,k1⟩
      rw [er_ext (v := .bool true) rfl,bind1_some,castBool_bool,cB_true,er_ext (v := .int .i32 ((dc (s.drop pos)).1:Int)) rfl,bind1_some,castInt_int]
      have hw := dc_width _ hne
      simp only [List.length_drop] at hw
      simp only [dig83,bind2_some,castBool_bool]
      rw [vlP,if_neg hne]
      cases c1:digitP ((dc (s.drop pos)).1:Int) with
      | true =>
        simp only [Bool.not_true,cB_false,if_true]
        by_cases z:n > 922337203685477580
        · rw [decide_eq_true z,if_pos z,cB_true]
          exact To3.some ⟨k1,rfl,rfl⟩
        · rw [decide_eq_false z,if_neg z,cB_false]
          refine (ih (pos + (dc (s.drop pos)).2) f _ h1 (by simp only [List.length_drop]; omega) (by omega) (by omega) st1).mono ?_
          rintro x vs h2 ⟨k2,r⟩
          refine ⟨k1.trans k2 (fun j hj _ => hj) (fun j hj _ => hj),?_⟩
          rw [List.drop_drop]
          exact r
      | false =>
        simp only [Bool.not_false,cB_true,Bool.false_eq_true,if_false]
        exact To3.some ⟨k1,rfl,rfl⟩
    · have e0:er (.ext 0 (.c (.tup [.bool false]))) h = some (.bool false) := er_ext rfl
      have hd:s.drop pos = [] := List.drop_of_length_le (by omega)
      simp only [L39_0,B39_0,nextS_end st (by omega),bind2_some,e0,bind1_some,castBool_bool,cB_false]
      refine To3.some ⟨Kp.refl _ _,?_⟩
      rw [hd,vlP,if_pos rfl]
      exact ⟨rfl,rfl⟩
theorem value84 {lf:Nat} {s:List UInt8} {h:List Ob} (hf:s.length < lf) (hne:s ≠ []):To2 (F39 lf s h) fun v h' => v = .tup [.int .i64 (valueP s).1,.bool (valueP s).2] ∧ Kp h h' [] := by
  simp only [F39]
  refine To2.bind2 (rangeS_to h s) ?_
  rintro v h1 ⟨rfl,st,k1⟩
  refine To2.bind3 (vlL lf s.length 0 lf 0 h1 (by simp) hf (by omega) st) ?_
  rintro x vs h2 ⟨k2,r⟩
  have kk:Kp h h2 [] := k1.trans k2 (fun j hj => by cases hj) (fun j hj hl => by simp at hj; omega)
  unfold valueP
  rw [List.drop_zero] at r
  cases e:vlP s.length 0 s with
  | some n =>
    rw [e] at r
    obtain ⟨rfl,rfl⟩ := r
    simp only [decide_true,cB_true,castCons_cons,castInt_int,castNil_nil]
    by_cases q:n ≤ 9223372036854775807
    · rw [decide_eq_true q,cB_true,Bool.true_and]
      by_cases z:s = [48]
      · have e1:(s == [48]) = true := by simp [z]
        rw [e1,cB_true,Bool.true_or]
        exact To2.some ⟨rfl,kk⟩
      · have e1:(s == [48]) = false := by simp [z]
        rw [e1,cB_false,Bool.false_or]
        cases s with
        | nil => exact absurd rfl hne
        | cons b t =>
          have e2:er (.idxS (.c (.str (b :: t))) (.c (.int .i64 (0:Int)))) h2 = some (.int .u8 b.toNat) := er_idxS (k := 0) rfl
          rw [e2,bind1_some,castInt_int]
          have e3:(((b.toNat:Nat):Int) != 48) = (some b != some (48:UInt8)) := by
            by_cases w:b = 48
            · subst w; rfl
            · have w1:(some b != some (48:UInt8)) = true := by simp [w]
              rw [w1]
              have:((b.toNat:Nat):Int) ≠ 48 := fun q => w (UInt8.toNat_inj.1 (by show b.toNat = 48; omega))
              simpa using this
          rw [e3]
          exact To2.some ⟨rfl,kk⟩
    · rw [decide_eq_false q,cB_false,Bool.false_and]
      exact To2.some ⟨rfl,kk⟩
  | none =>
    rw [e] at r
    obtain ⟨rfl,rfl⟩ := r
    simp only [show decide (EX.ret = EX.exit 0) = false from rfl,cB_false,decide_true,cB_true,castCons_cons,castInt_int,castBool_bool,castNil_nil]
    exact To2.some ⟨rfl,kk⟩
end Go.Proofs.YtjpjeilfmjdhcaaDoor.Ln
