/- FewRows comes to some answer, whatever rows there are. No condition. -/
import Derived.Test.YtlfjgopjjiihaaaGreatDoorDl
import Derived.Test.YtlfjgopjjiihaaaGreatDoorE33
namespace Go.Proofs.YtlfjgopjjiihaaaGreatDoor.Dl
open Go Go.Proofs.YtlfjgopjjiihaaaGreatDoor.E
set_option maxRecDepth 100000
set_option linter.unusedSimpArgs false
set_option linter.unusedVariables false
def qA1 : EC := (.reg [⟨(some 11), none, (.op (.mv (.t 9))), []⟩, ⟨(some 5), none, (.op (.mv (.t 11))), []⟩])
def qA2 : EC := (.seq (.reg [⟨(some 12), none, (.op (.mv (.t 5))), []⟩, ⟨(some 13), none, (.op (.bin .geq (.t 12) (.c (.int .i64 5)))), []⟩, ⟨(some 14), none, (.op (.mv (.t 13))), []⟩, ⟨(some 15), (some (14, false)), (.op (.mv (.t 0))), []⟩, ⟨(some 16), (some (14, false)), (.op (.mv (.t 5))), []⟩, ⟨(some 17), (some (14, false)), (.op (.iaddrL 1 (.t 15) (.t 16))), []⟩, ⟨(some 18), (some (14, false)), (.op (.load1 (.t 17))), []⟩, ⟨(some 19), (some (14, false)), (.op (.lenL (.t 18))), []⟩, ⟨(some 20), (some (14, false)), (.op (.mv (.t 1))), []⟩, ⟨(some 21), (some (14, false)), (.op (.bin .gtr (.t 19) (.t 20))), []⟩, ⟨(some 22), none, (.op (.pick (.t 14) (.c (.bool true)) (.t 21))), []⟩]) (.cond (.t 22) (.seq (.reg [⟨(some 4), none, (.op (.mv (.c (.bool false)))), []⟩]) .ret) .skip))
def qB : EC := (.reg [⟨(some 23), none, (.op (.mv (.t 0))), []⟩, ⟨(some 24), none, (.op (.mv (.t 5))), []⟩, ⟨(some 25), none, (.op (.iaddrL 1 (.t 23) (.t 24))), []⟩, ⟨(some 26), none, (.op (.load1 (.t 25))), []⟩, ⟨(some 27), none, (.op (.lenL (.t 26))), []⟩, ⟨(some 28), none, (.op (.mv (.c (.int .i64 0)))), []⟩])
def qI : EC := (.seq (.reg [⟨(some 30), none, (.op (.mv (.t 28))), []⟩, ⟨(some 6), none, (.op (.mv (.t 30))), []⟩]) (.seq (.reg [⟨(some 31), none, (.op (.mv (.t 0))), []⟩, ⟨(some 32), none, (.op (.mv (.t 5))), []⟩, ⟨(some 33), none, (.op (.iaddrL 1 (.t 31) (.t 32))), []⟩, ⟨(some 34), none, (.op (.load1 (.t 33))), []⟩, ⟨(some 35), none, (.op (.mv (.t 6))), []⟩, ⟨(some 36), none, (.op (.iaddrL 1 (.t 34) (.t 35))), []⟩, ⟨(some 37), none, (.op (.load1 (.t 36))), []⟩, ⟨(some 38), none, (.op (.lenL (.t 37))), []⟩, ⟨(some 39), none, (.op (.bin .gtr (.t 38) (.c (.int .i64 20)))), []⟩]) (.cond (.t 39) (.seq (.reg [⟨(some 4), none, (.op (.mv (.c (.bool false)))), []⟩]) .ret) .skip)))
def q0 : EC := (.reg [⟨(some 4), none, (.op (.mv (.c (.bool false)))), []⟩])
def q1 : EC := (.reg [⟨(some 7), none, (.op (.mv (.t 0))), []⟩, ⟨(some 8), none, (.op (.lenL (.t 7))), []⟩, ⟨(some 9), none, (.op (.mv (.c (.int .i64 0)))), []⟩])
def q9 : EC := (.seq (.reg [⟨(some 4), none, (.op (.mv (.c (.bool true)))), []⟩]) .ret)
theorem c5_eq : c5.code = .seq q0 (.seq (.seq q1 (rangeL 0 1 9 8 10 41 (.seq qA1 (.seq qA2 (.seq qB (rangeL 2 3 28 27 29 40 qI)))))) q9) := rfl

/-- A slice of whatever parts. -/
def L0 (v : V) : Prop := v = .nils ∨ ∃ es, v = .sl es ∧ es.length ≤ 9223372036854775807
def L1 (v : V) : Prop := v = .nils ∨ ∃ es, v = .sl es ∧ es.length ≤ 9223372036854775807 ∧ ∀ (i : Nat) (e : V), es[i]? = some e → L0 e
def L2 (v : V) : Prop := v = .nils ∨ ∃ es, v = .sl es ∧ es.length ≤ 9223372036854775807 ∧ ∀ (i : Nat) (e : V), es[i]? = some e → L1 e
def els : V → List V
  | .sl es => es
  | _ => []
theorem L0.len {v : V} (h : L0 v) : evLenL [] v = some (els v).length ∧ (els v).length ≤ 9223372036854775807 ∧ v.cells = [v] := by
  rcases h with rfl | ⟨es, rfl, q⟩
  · exact ⟨rfl, Nat.zero_le _, rfl⟩
  · exact ⟨rfl, q, rfl⟩
theorem L1.len {v : V} (h : L1 v) : evLenL [] v = some (els v).length ∧ (els v).length ≤ 9223372036854775807 ∧ v.cells = [v] := by
  rcases h with rfl | ⟨es, rfl, q, _⟩
  · exact ⟨rfl, Nat.zero_le _, rfl⟩
  · exact ⟨rfl, q, rfl⟩
theorem L2.len {v : V} (h : L2 v) : evLenL [] v = some (els v).length ∧ (els v).length ≤ 9223372036854775807 := by
  rcases h with rfl | ⟨es, rfl, q, _⟩
  · exact ⟨rfl, Nat.zero_le _⟩
  · exact ⟨rfl, q⟩
theorem L1.get {v : V} (h : L1 v) {i : Nat} (hi : i < (els v).length) : ∃ e, v = .sl (els v) ∧ (els v)[i]? = some e ∧ L0 e := by
  rcases h with rfl | ⟨es, rfl, q, r⟩
  · simp [els] at hi
  · exact ⟨es[i], rfl, List.getElem?_eq_getElem hi, r i _ (List.getElem?_eq_getElem hi)⟩
theorem L2.get {v : V} (h : L2 v) {i : Nat} (hi : i < (els v).length) : ∃ e, v = .sl (els v) ∧ (els v)[i]? = some e ∧ L1 e := by
  rcases h with rfl | ⟨es, rfl, q, r⟩
  · simp [els] at hi
  · exact ⟨es[i], rfl, List.getElem?_eq_getElem hi, r i _ (List.getElem?_eq_getElem hi)⟩
section
variable (t : Nat → V) (v e e' : V) (M k j N m p : Nat)
abbrev i64 (n : Nat) : V := .int .i64 n
abbrev pAd (v : V) (k : Nat) (e : V) : Prop := ((evIaddrL [] 1 v (k : Int)).map fun v => (v, ([] : List Ob))) = some (.ref e 0, [])
abbrev pLd (e : V) : Prop := ((evLoad1 [] (.ref e 0)).map fun v => (v, ([] : List Ob))) = some (e, [])
abbrev pLn (e : V) (m : Nat) : Prop := ((evLenL [] e).map fun (m : Nat) => ((.int .i64 m : V), ([] : List Ob))) = some (i64 m, [])
abbrev pCm (op : BinOp) (a b : Nat) (q : Bool) : Prop := ((evBin op (i64 a) (i64 b)).map fun v => (v, ([] : List Ob))) = some (.bool q, [])
abbrev KA : Kn := [(0, v), (1, i64 M), (5, i64 k), (8, i64 N), (9, i64 k)]
abbrev no : Sums := fun _ _ _ => none
variable (P : Program)
theorem run0 : tellY [0, 1] t (evCY P no [] 5 t q0 [(0, v), (1, i64 M)] [] ⟨[], []⟩) = some (.normal, [v, i64 M], [], []) := by kernel_rfl
theorem run1 : tellY [0, 1, 8, 9] t (evCY P no [8] 5 t q1 [(0, v), (1, i64 M)] [] ⟨[(i64 N, [])], []⟩) = some (.normal, [v, i64 M, i64 N, i64 0], [], [pLn v N]) := by kernel_rfl
theorem runA : tellY [0, 1, 5, 8, 9] t (evCY P no [] 5 t qA1 [(0, v), (1, i64 M), (8, i64 N), (9, i64 k)] [] ⟨[], []⟩) = some (.normal, [v, i64 M, i64 k, i64 N, i64 k], [], []) := by kernel_rfl
theorem runA1 : tellY [4] t (evCY P no [13, 17, 18, 19, 21] 5 t qA2 (KA v M k N) [] ⟨[(.bool true, [])], []⟩) = some (.ret, [.bool false], [], [pCm .geq k 5 true]) := by kernel_rfl
theorem runA2 : tellY [4] t (evCY P no [13, 17, 18, 19, 21] 5 t qA2 (KA v M k N) [] ⟨[(.bool false, []), (.ref e 0, []), (e, []), (i64 m, []), (.bool true, [])], []⟩) = some (.ret, [.bool false], [], [pCm .gtr m M true, pLn e m, pLd e, pAd v k e, pCm .geq k 5 false]) := by kernel_rfl
theorem runA3 : tellY [0, 1, 5, 8, 9] t (evCY P no [13, 17, 18, 19, 21] 5 t qA2 (KA v M k N) [] ⟨[(.bool false, []), (.ref e 0, []), (e, []), (i64 m, []), (.bool false, [])], []⟩) = some (.normal, [v, i64 M, i64 k, i64 N, i64 k], [], [pCm .gtr m M false, pLn e m, pLd e, pAd v k e, pCm .geq k 5 false]) := by kernel_rfl
theorem runB : tellY [0, 1, 5, 8, 9, 27, 28] t (evCY P no [25, 26, 27] 5 t qB (KA v M k N) [] ⟨[(.ref e 0, []), (e, []), (i64 m, [])], []⟩) = some (.normal, [v, i64 M, i64 k, i64 N, i64 k, i64 m, i64 0], [], [pLn e m, pLd e, pAd v k e]) := by kernel_rfl
abbrev KI : Kn := [(0, v), (1, i64 M), (5, i64 k), (8, i64 N), (9, i64 k), (27, i64 m), (28, i64 j)]
theorem runI1 : tellY [4] t (evCY P no [33, 34, 36, 37, 38, 39] 5 t qI (KI v M k j N m) [] ⟨[(.ref e 0, []), (e, []), (.ref e' 0, []), (e', []), (i64 p, []), (.bool true, [])], []⟩) = some (.ret, [.bool false], [], [pCm .gtr p 20 true, pLn e' p, pLd e', pAd e j e', pLd e, pAd v k e]) := by kernel_rfl
theorem runI2 : tellY [0, 1, 5, 8, 9, 27, 28] t (evCY P no [33, 34, 36, 37, 38, 39] 5 t qI (KI v M k j N m) [] ⟨[(.ref e 0, []), (e, []), (.ref e' 0, []), (e', []), (i64 p, []), (.bool false, [])], []⟩) = some (.normal, [v, i64 M, i64 k, i64 N, i64 k, i64 m, i64 j], [], [pCm .gtr p 20 false, pLn e' p, pLd e', pAd e j e', pLd e, pAd v k e]) := by kernel_rfl
theorem run9 : tellY [4] t (evCY P no [] 5 t q9 [] [] ⟨[], []⟩) = some (.ret, [.bool true], [], []) := by kernel_rfl
end
theorem cm (op : BinOp) (hop : isCmp op = true) (a b : Nat) : ∃ q, pCm op a b q := by cases op <;> first | exact ⟨_, rfl⟩ | cases hop
theorem ad_ok {v : V} {k : Nat} {e : V} (hv : v = .sl (els v)) (he : (els v)[k]? = some e) (hc : e.cells = [e]) : pAd v k e := by
  rw [hv]
  simp [pAd, evIaddrL, he, hc]
theorem ld_ok {e : V} (hc : e.cells = [e]) : pLd e := by simp [pLd, evLoad1, rdCells, hc]
theorem ln_ok {e : V} {m : Nat} (h : evLenL [] e = some m) : pLn e m := by simp [pLn, h]

theorem few_inner {P : Program} {v e : V} {M k N : Nat} (hv : v = .sl (els v)) (he : (els v)[k]? = some e) (h1 : L1 e) (t : Nat → V) (g0 : t 0 = v) (g1 : t 1 = i64 M) (g5 : t 5 = i64 k) (g8 : t 8 = i64 N) (g9 : t 9 = i64 k) (g27 : t 27 = i64 (els e).length) (g28 : t 28 = i64 0) :
    ∃ x t', Runs P (rangeL 2 3 28 27 29 40 qI) t [] x t' [] ∧ ((x = .normal ∧ t' 0 = v ∧ t' 1 = i64 M ∧ t' 5 = i64 k ∧ t' 8 = i64 N ∧ t' 9 = i64 k) ∨ (x = .ret ∧ ∃ b, t' 4 = .bool b)) := by
  have key : ∃ x t' h', Runs P (rangeL 2 3 28 27 29 40 qI) t [] (inB 2 x) t' h' ∧ (h' = [] ∧ ((x = .exit 2 ∧ t' 0 = v ∧ t' 1 = i64 M ∧ t' 5 = i64 k ∧ t' 8 = i64 N ∧ t' 9 = i64 k) ∨ (x = .ret ∧ ∃ b, t' 4 = .bool b))) := by
    refine runs_rangeL (P := P) (b := 2) (c := 3) (ti := 28) (tn := 27) (tc := 29) (ts := 40) (body := qI) (by decide) (by decide) (by decide) (by decide) (by decide) (N := (els e).length) h1.len.2.1
      (fun j t h => h = [] ∧ t 0 = v ∧ t 1 = i64 M ∧ t 5 = i64 k ∧ t 8 = i64 N ∧ t 9 = i64 k)
      (fun x t h => h = [] ∧ ((x = .exit 2 ∧ t 0 = v ∧ t 1 = i64 M ∧ t 5 = i64 k ∧ t 8 = i64 N ∧ t 9 = i64 k) ∨ (x = .ret ∧ ∃ b, t 4 = .bool b)))
      0 g28 g27 (Nat.zero_le _) ⟨rfl, g0, g1, g5, g8, g9⟩ ?_ ?_
    · rintro j t h hj h28 h27 ⟨rfl, h0, h1', h5, h8, h9⟩
      obtain ⟨e', hs, he', hl⟩ := h1.get hj
      have hK : Kn.holds (upd t 29 (.bool true)) (KI v M k j N (els e).length) := ⟨by simp [upd, h0], by simp [upd, h1'], by simp [upd, h5], by simp [upd, h8], by simp [upd, h9], by simp [upd, h27], by simp [upd, h28], trivial⟩
      have a1 := ad_ok hv he h1.len.2.2
      have a2 := ld_ok h1.len.2.2
      have a3 := ad_ok hs he' hl.len.2.2
      have a4 := ld_ok hl.len.2.2
      have a5 := ln_ok hl.len.1
      obtain ⟨q, hq⟩ := cm .gtr rfl (els e').length 20
      cases q
      · obtain ⟨t1, r1, e1⟩ := runs_of noSums_ok (KI v M k j N (els e).length) hK (runI2 _ v e e' M k j N (els e).length (els e').length P) (ands_cons hq (ands_cons a5 (ands_cons a4 (ands_cons a3 (ands_cons a2 (ands_cons a1 ands_nil))))))
        simp only [List.map_cons, List.map_nil, List.cons.injEq, and_true] at e1
        obtain ⟨z0, z1, z5, z8, z9, z27, z28⟩ := e1
        exact .inl ⟨_, t1, [], .inl rfl, r1, z28, z27, rfl, by simp [upd, z0], by simp [upd, z1], by simp [upd, z5], by simp [upd, z8], by simp [upd, z9]⟩
      · obtain ⟨t1, r1, e1⟩ := runs_of noSums_ok (KI v M k j N (els e).length) hK (runI1 _ v e e' M k j N (els e).length (els e').length P) (ands_cons hq (ands_cons a5 (ands_cons a4 (ands_cons a3 (ands_cons a2 (ands_cons a1 ands_nil))))))
        simp only [List.map_cons, List.map_nil, List.cons.injEq, and_true] at e1
        exact .inr ⟨_, t1, [], by simp, by simp, r1, rfl, .inr ⟨rfl, _, e1⟩⟩
    · rintro t h h28 h27 ⟨rfl, h0, h1', h5, h8, h9⟩
      exact ⟨rfl, .inl ⟨rfl, by simp [upd, h0], by simp [upd, h1'], by simp [upd, h5], by simp [upd, h8], by simp [upd, h9]⟩⟩
  obtain ⟨x, t', h', r, hE, hx⟩ := key
  subst hE
  refine ⟨inB 2 x, t', r, ?_⟩
  rcases hx with ⟨rfl, hx⟩ | ⟨rfl, hx⟩
  · exact .inl ⟨rfl, hx⟩
  · exact .inr ⟨rfl, hx⟩

theorem few_outer {P : Program} {v : V} {M : Nat} (h2 : L2 v) (t : Nat → V) (g0 : t 0 = v) (g1 : t 1 = i64 M) (g8 : t 8 = i64 (els v).length) (g9 : t 9 = i64 0) :
    ∃ x t', Runs P (rangeL 0 1 9 8 10 41 (.seq qA1 (.seq qA2 (.seq qB (rangeL 2 3 28 27 29 40 qI))))) t [] x t' [] ∧ (x = .normal ∨ (x = .ret ∧ ∃ b, t' 4 = .bool b)) := by
  have key : ∃ x t' h', Runs P (rangeL 0 1 9 8 10 41 (.seq qA1 (.seq qA2 (.seq qB (rangeL 2 3 28 27 29 40 qI))))) t [] (inB 0 x) t' h' ∧ (h' = [] ∧ (x = .exit 0 ∨ (x = .ret ∧ ∃ b, t' 4 = .bool b))) := by
    refine runs_rangeL (P := P) (b := 0) (c := 1) (ti := 9) (tn := 8) (tc := 10) (ts := 41) (body := .seq qA1 (.seq qA2 (.seq qB (rangeL 2 3 28 27 29 40 qI)))) (by decide) (by decide) (by decide) (by decide) (by decide) (N := (els v).length) h2.len.2
      (fun j t h => h = [] ∧ t 0 = v ∧ t 1 = i64 M)
      (fun x t h => h = [] ∧ (x = .exit 0 ∨ (x = .ret ∧ ∃ b, t 4 = .bool b)))
      0 g9 g8 (Nat.zero_le _) ⟨rfl, g0, g1⟩ ?_ ?_
    · rintro k t h hk h9 h8 ⟨rfl, h0, h1⟩
      obtain ⟨e, hs, he, hl⟩ := h2.get hk
      obtain ⟨t1, r1, e1⟩ := runs_of noSums_ok [(0, v), (1, i64 M), (8, i64 (els v).length), (9, i64 k)] ⟨by simp [upd, h0], by simp [upd, h1], by simp [upd, h8], by simp [upd, h9], trivial⟩ (runA (upd t 10 (.bool true)) v M k (els v).length P) ands_nil
      simp only [List.map_cons, List.map_nil, List.cons.injEq, and_true] at e1
      obtain ⟨z0, z1, z5, z8, z9⟩ := e1
      have hK : Kn.holds t1 (KA v M k (els v).length) := ⟨z0, z1, z5, z8, z9, trivial⟩
      have a1 := ad_ok hs he hl.len.2.2
      have a2 := ld_ok hl.len.2.2
      have a3 := ln_ok hl.len.1
      obtain ⟨q, hq⟩ := cm .geq rfl k 5
      obtain ⟨q', hq'⟩ := cm .gtr rfl (els e).length M
      cases q
      · cases q'
        · obtain ⟨t2, r2, e2⟩ := runs_of noSums_ok _ hK (runA3 t1 v e M k (els v).length (els e).length P) (ands_cons hq' (ands_cons a3 (ands_cons a2 (ands_cons a1 (ands_cons hq ands_nil)))))
          simp only [List.map_cons, List.map_nil, List.cons.injEq, and_true] at e2
          obtain ⟨y0, y1, y5, y8, y9⟩ := e2
          obtain ⟨t3, r3, e3⟩ := runs_of noSums_ok (KA v M k (els v).length) ⟨y0, y1, y5, y8, y9, trivial⟩ (runB t2 v e M k (els v).length (els e).length P) (ands_cons a3 (ands_cons a2 (ands_cons a1 ands_nil)))
          simp only [List.map_cons, List.map_nil, List.cons.injEq, and_true] at e3
          obtain ⟨w0, w1, w5, w8, w9, w27, w28⟩ := e3
          obtain ⟨x, t4, r4, hx⟩ := few_inner (P := P) hs he hl t3 w0 w1 w5 w8 w9 w27 w28
          rcases hx with ⟨rfl, f0, f1, f5, f8, f9⟩ | ⟨rfl, b, hb⟩
          · exact .inl ⟨_, t4, [], .inl rfl, r1.seq (r2.seq (r3.seq r4)), f9, f8, rfl, by simp [upd, f0], by simp [upd, f1]⟩
          · exact .inr ⟨_, t4, [], by simp, by simp, r1.seq (r2.seq (r3.seq r4)), rfl, .inr ⟨rfl, b, hb⟩⟩
        · obtain ⟨t2, r2, e2⟩ := runs_of noSums_ok _ hK (runA2 t1 v e M k (els v).length (els e).length P) (ands_cons hq' (ands_cons a3 (ands_cons a2 (ands_cons a1 (ands_cons hq ands_nil)))))
          simp only [List.map_cons, List.map_nil, List.cons.injEq, and_true] at e2
          exact .inr ⟨_, t2, [], by simp, by simp, r1.seq (r2.stop (by simp)), rfl, .inr ⟨rfl, _, e2⟩⟩
      · obtain ⟨t2, r2, e2⟩ := runs_of noSums_ok _ hK (runA1 t1 v M k (els v).length P) (ands_cons hq ands_nil)
        simp only [List.map_cons, List.map_nil, List.cons.injEq, and_true] at e2
        exact .inr ⟨_, t2, [], by simp, by simp, r1.seq (r2.stop (by simp)), rfl, .inr ⟨rfl, _, e2⟩⟩
    · rintro t h h9 h8 ⟨rfl, _⟩
      exact ⟨rfl, .inl rfl⟩
  obtain ⟨x, t', h', r, hE, hx⟩ := key
  subst hE
  refine ⟨inB 0 x, t', r, ?_⟩
  rcases hx with rfl | ⟨rfl, hx⟩
  · exact .inl rfl
  · exact .inr ⟨rfl, hx⟩

/-- FewRows comes to some answer. -/
theorem fewRows_ok {v : V} {M : Nat} (h2 : L2 v) : ∃ b, CD Tryz.prog 5 [v, i64 M] [] (.bool b) [] := by
  obtain ⟨t0, r0, e0⟩ := runs_of (P := Tryz.prog) noSums_ok [(0, v), (1, i64 M)] ⟨rfl, rfl, trivial⟩ (run0 (env0 [v, i64 M]) v M Tryz.prog) ands_nil
  simp only [List.map_cons, List.map_nil, List.cons.injEq, and_true] at e0
  obtain ⟨t1, r1, e1⟩ := runs_of (P := Tryz.prog) noSums_ok [(0, v), (1, i64 M)] ⟨e0.1, e0.2, trivial⟩ (run1 t0 v M (els v).length Tryz.prog) (ands_cons (ln_ok h2.len.1) ands_nil)
  simp only [List.map_cons, List.map_nil, List.cons.injEq, and_true] at e1
  obtain ⟨x, t2, r2, hx⟩ := few_outer (P := Tryz.prog) h2 t1 e1.1 e1.2.1 e1.2.2.1 e1.2.2.2
  rcases hx with rfl | ⟨rfl, b, hb⟩
  · obtain ⟨t3, r3, e3⟩ := runs_of (P := Tryz.prog) noSums_ok [] trivial (run9 t2 Tryz.prog) ands_nil
    simp only [List.map_cons, List.map_nil, List.cons.injEq, and_true] at e3
    exact ⟨true, CD.of_runs Tryz.func5 ok5 en5 (show 2 ≤ 42 by decide) (by rw [c5_eq]; exact r0.seq ((r1.seq r2).seq r3)) (.inr rfl) (by simp [c5, resE, mapAll, ERs.ev, e3])⟩
  · exact ⟨b, CD.of_runs Tryz.func5 ok5 en5 (show 2 ≤ 42 by decide) (by rw [c5_eq]; exact r0.seq ((r1.seq r2).stop (by simp))) (.inr rfl) (by simp [c5, resE, mapAll, ERs.ev, hb])⟩
end Go.Proofs.YtlfjgopjjiihaaaGreatDoor.Dl
