/- ExprBack, the plain law: single words of a text. No condition. -/
import Derived.Test.YtjpjeilfmjdhcaaDoorEbP
namespace Go.Proofs.YtjpjeilfmjdhcaaDoor.Eb
open Go Go.Proofs.YtjpjeilfmjdhcaaDoor.E
open Go.Proofs.YtjpjeilfmjdhcaaDoor.Ln
open Go.Proofs.YtjpjeilfmjdhcaaDoor.Ex
open Go.Proofs.YtjpjeilfmjdhcaaDoor.Pr
open Go.Proofs.YtjpjeilfmjdhcaaDoor.Lo
set_option maxRecDepth 100000
set_option linter.unusedVariables false
set_option linter.unusedSimpArgs false
theorem letter_facts {r:Int} (h:letterP r = true):r ≠ 39 ∧ r ≠ 45 ∧ blankP r = false ∧ r ≠ 65533 := by
  simp only [letterP,Bool.or_eq_true,Bool.and_eq_true,decide_eq_true_eq,beq_iff_eq,ge_iff_le] at h
  refine ⟨by omega,by omega,?_,by omega⟩
  simp only [blankP,Bool.or_eq_false_iff,beq_eq_false_iff_ne,ne_eq]
  omega
theorem digit_facts {r:Int} (h:digitP r = true):r ≠ 39 ∧ r ≠ 45 ∧ blankP r = false ∧ r ≠ 65533 ∧ letterP r = false := by
  simp only [digitP,Bool.and_eq_true,decide_eq_true_eq,ge_iff_le] at h
  refine ⟨by omega,by omega,?_,by omega,?_⟩
  · simp only [blankP,Bool.or_eq_false_iff,beq_eq_false_iff_ne,ne_eq]
    omega
  · simp only [letterP,Bool.or_eq_false_iff,Bool.and_eq_false_iff,decide_eq_false_iff_not,beq_eq_false_iff_ne,ne_eq,ge_iff_le]
    omega
/-- All is letters and digits. -/
theorem runP_nx {R:List UInt8} (hR:Nx R):∀ (m:Nat) (t:List UInt8) (k:Nat),t.length ≤ m → runP m t = t.length → R.length ≤ k → runP (m + k) (t ++ R) = t.length := by
  have h0:∀ k,R.length ≤ k → runP k R = 0 := fun k hk => by
    cases R with
    | nil => cases k with
      | zero => rfl
      | succ k => rw [runP,if_pos rfl]
    | cons b R =>
      obtain ⟨k,rfl⟩:∃ j,k = j + 1 := ⟨k - 1,by simp at hk; omega⟩
      obtain ⟨h1,h2,h3⟩ := hR b R rfl
      rw [runP,if_neg (by simp),dc_ascii h1]
      simp only [h2,h3,Bool.or_self,Bool.false_eq_true,if_false]
  intro m
  induction m with
  | zero =>
    intro t k ht _ hk
    have:t = [] := List.eq_nil_of_length_eq_zero (by omega)
    subst this
    rw [List.nil_append,Nat.zero_add,h0 k hk]; rfl
  | succ m ih =>
    intro t k ht hr hk
    by_cases c:t = []
    · subst c
      rw [List.nil_append,h0 _ (by omega)]; rfl
    · have hw := dc_width t c
      have hl:0 < t.length := List.length_pos_iff.2 c
      rw [runP,if_neg c] at hr
      by_cases q:(letterP (dc t).1 || digitP (dc t).1) = true
      · rw [if_pos q] at hr
        rw [show m + 1 + k = (m + k) + 1 by omega,runP,if_neg (by simp [c]),dc_as hR.as c,if_pos q,List.drop_append_of_le_length hw.2,ih (t.drop (dc t).2) k (by simp; omega) (by rw [List.length_drop]; omega) hk]
        rw [List.length_drop]; omega
      · rw [if_neg q] at hr; omega
theorem runP_nx' {R t:List UInt8} (hR:Nx R) (h:runP t.length t = t.length):runP (t ++ R).length (t ++ R) = t.length := by
  rw [List.length_append]; exact runP_nx hR _ t _ (Nat.le_refl _) h (Nat.le_refl _)
theorem nm_run:∀ (m n:Nat) (t:List UInt8) (k:Nat),nmP m n t = some k → t.length ≤ m → runP m t = t.length
  | 0,n,t,k,h,hl => by
    have:t = [] := List.eq_nil_of_length_eq_zero (by omega)
    subst this; rfl
  | m + 1,n,t,k,h,hl => by
    rw [nmP] at h
    rw [runP]
    by_cases c:t = []
    · rw [if_pos c,c]; rfl
    · rw [if_neg c] at h ⊢
      have hw := dc_width t c
      by_cases q:(letterP (dc t).1 || (n != 0 && digitP (dc t).1)) = true
      · rw [if_pos q] at h
        rw [if_pos,nm_run m (n + 1) _ k h (by simp; omega),List.length_drop]
        · omega
        · simp only [Bool.or_eq_true,Bool.and_eq_true] at q ⊢
          rcases q with q | q
          · exact .inl q
          · exact .inr q.2
      · rw [if_neg q] at h; cases h
theorem named_facts {s:List UInt8} (h:namedP s = true):s ≠ [] ∧ letterP (dc s).1 = true ∧ runP s.length s = s.length := by
  unfold namedP at h
  cases e:nmP s.length 0 s with
  | none => rw [e] at h; cases h
  | some n =>
    rw [e] at h
    simp only [Bool.and_eq_true,decide_eq_true_eq] at h
    have hne:s ≠ [] := by
      intro z
      subst z
      simp [nmP] at e
      omega
    refine ⟨hne,?_,nm_run _ _ _ _ e (Nat.le_refl _)⟩
    obtain ⟨m,hm⟩:∃ m,s.length = m + 1 := ⟨s.length - 1,by have := List.length_pos_iff.2 hne; omega⟩
    rw [hm,nmP,if_neg hne] at e
    by_cases q:(letterP (dc s).1 || ((0:Nat) != 0 && digitP (dc s).1)) = true
    · simpa using q
    · rw [if_neg q] at e; cases e
theorem Piece.name {s R:List UInt8} (h:namedP s = true) (hR:Nx R):Piece s [⟨1,s,0⟩] R := by
  obtain ⟨hne,hl,hr⟩ := named_facts h
  obtain ⟨f1,f2,f3,f4⟩ := letter_facts hl
  have ed := dc_as hR.as hne
  refine Piece.word hne (.inr hR.as) (by rw [ed]; exact f3) (pre_dash (by rw [ed]; exact f2)) (by rw [ed]; exact f4) (fun ws => ?_)
  unfold wordP
  rw [ed,if_neg f1,if_pos hl,runP_nx' hR hr,List.take_left',h]
  rfl
theorem dg_run:∀ (m:Nat) (t:List UInt8),Dg t → t.length ≤ m → runP m t = t.length
  | 0,t,_,h => by
    have:t = [] := List.eq_nil_of_length_eq_zero (by omega)
    subst this; rfl
  | m + 1,[],_,h => by rw [runP,if_pos rfl]; rfl
  | m + 1,c :: t,hd,h => by
    have hc := hd c (by simp)
    have dg:digitP ((c.toNat:Nat):Int) = true := by
      unfold digitP
      rw [decide_eq_true (by omega),decide_eq_true (by omega)]; rfl
    rw [runP,if_neg (by simp),dc_ascii (by omega)]
    simp only [dg,Bool.or_true,if_true,List.drop_one,List.tail_cons]
    rw [dg_run m t (fun x hx => hd x (by simp [hx])) (by simpa using h)]
    simp; omega
theorem decP_val {n:Nat} (h:n ≤ 9223372036854775807):valueP (decP n) = ((n:Int),true) := by
  have h2:n < 10 ^ 20 := Nat.lt_of_le_of_lt h (by decide)
  have e:fv 0 (decP n) = n := decF_fv 20 n h2
  have hv := vl_eq (decP n) 0 (decP n).length (Nat.le_refl _) (decF_dg 20 n) (by rw [e]; exact h)
  rw [e] at hv
  have hv:vlP (decP n).length 0 (decP n) = some (n:Int) := hv
  unfold valueP
  rw [hv]
  have hz:(decP n == [48] || (decP n).head? != some 48) = true := by
    by_cases z:n = 0
    · subst z; rfl
    · obtain ⟨c,r,ec,hc⟩ := decF_head 20 n (by omega) h2
      have ec:decP n = c :: r := ec
      rw [ec]
      simp [hc]
  simp only [hz,Bool.and_true]
  rw [wrap_i64 (by omega) (by omega),decide_eq_true (by omega)]
theorem Piece.num {n:Nat} {R:List UInt8} (h:n ≤ 9223372036854775807) (hR:Nx R):Piece (decP n) [⟨2,decP n,n⟩] R := by
  have hne:decP n ≠ [] := decF_ne 19 n
  have hd:Dg (decP n) := decF_dg 20 n
  have hg:digitP (dc (decP n)).1 = true := by
    cases e:decP n with
    | nil => exact absurd e hne
    | cons c t =>
      have hc := hd c (by rw [e]; simp)
      rw [dc_ascii (by omega)]
      unfold digitP
      rw [decide_eq_true (by omega),decide_eq_true (by omega)]; rfl
  obtain ⟨f1,f2,f3,f4,f5⟩ := digit_facts hg
  have ed := dc_as hR.as hne
  refine Piece.word hne (.inr hR.as) (by rw [ed]; exact f3) (pre_dash (by rw [ed]; exact f2)) (by rw [ed]; exact f4) (fun ws => ?_)
  unfold wordP
  rw [ed,if_neg f1,f5,if_neg (by decide),hg,if_pos rfl,runP_nx' hR (dg_run _ _ hd (Nat.le_refl _)),List.take_left',decP_val h]
  rfl
/-! ### Texts -/
def dblP:List UInt8 → List UInt8
  | [] => []
  | c :: t => if c = 39 then 39 :: 39 :: dblP t else c :: dblP t
def quoteP (s:List UInt8):List UInt8 := 39 :: (dblP s ++ [39])
theorem qt_dbl {R:List UInt8} (hR:∀ R',R ≠ 39 :: R'):∀ (s b:List UInt8) (m:Nat),(dblP s).length + 1 ≤ m → qtP m b (dblP s ++ 39 :: R) = some (b ++ s,(dblP s).length + 1)
  | [],b,m,h => by
    obtain ⟨m,rfl⟩:∃ j,m = j + 1 := ⟨m - 1,by simp [dblP] at h; omega⟩
    rw [dblP,List.nil_append,qtP_cons,if_pos rfl]
    cases R with
    | nil => simp
    | cons d u =>
      have:d ≠ 39 := fun z => hR u (by rw [z])
      simp [this]
  | c :: s,b,m,h => by
    rw [dblP] at h ⊢
    by_cases q:c = 39
    · subst q
      rw [if_pos rfl] at h ⊢
      simp only [List.length_cons] at h
      obtain ⟨m,rfl⟩:∃ j,m = j + 1 := ⟨m - 1,by omega⟩
      rw [List.cons_append,qtP_cons,if_pos rfl]
      simp only [List.cons_append,if_true]
      rw [qt_dbl hR s (b ++ [39]) m (by omega)]
      simp
    · rw [if_neg q] at h ⊢
      simp only [List.length_cons] at h
      obtain ⟨m,rfl⟩:∃ j,m = j + 1 := ⟨m - 1,by omega⟩
      rw [List.cons_append,qtP_cons,if_neg q,qt_dbl hR s (b ++ [c]) m (by omega)]
      simp
theorem Piece.quote {s R:List UInt8} (h:s.length ≤ 100) (hR:Fw R):Piece (quoteP s) [⟨3,s,0⟩] R := by
  have hq:∀ R',R ≠ 39 :: R' := by
    intro R' z
    rcases hR with rfl | ⟨Q,rfl⟩ | ⟨Q,rfl⟩
    · cases z
    · injection z with z1 z2; exact absurd z1 (by decide)
    · injection z with z1 z2; exact absurd z1 (by decide)
  have ed:∀ t,dc (39 :: t) = (39,1) := fun t => dc_ascii (by decide)
  have e0:quoteP s ++ R = 39 :: (dblP s ++ 39 :: R) := by simp [quoteP]
  refine Piece.word (by simp [quoteP]) (.inr hR.nx.as) (by rw [e0,ed]; decide) (pre_dash (by rw [e0,ed]; decide)) (by rw [e0,ed]; decide) (fun ws => ?_)
  rw [e0,ed]
  unfold wordP
  rw [if_pos (show (((39,1):Nat × Nat).1:Int) = 39 from rfl)]
  have e1:(39 :: (dblP s ++ 39 :: R)).drop 1 = dblP s ++ 39 :: R := rfl
  rw [e1,qt_dbl hq s [] _ (by simp)]
  simp only [List.nil_append,decide_eq_true h]
  have:(quoteP s).length = 1 + ((dblP s).length + 1) := by simp [quoteP]; omega
  rw [this]
/-! ### Signs and blanks -/
theorem Piece.blank {R:List UInt8}:Piece [32] [] R := fun ws h => by
  rw [if_pos (by simpa using h),List.append_nil,List.singleton_append]
  have e := blank_step (b := 32) (t := R) (m := R.length) (ws := ws) (.inr (.inr rfl))
  simpa using e
theorem Piece.sign1 {c:UInt8} {R:List UInt8} (hc:c.toNat < 128) (hb:blankP (c.toNat:Int) = false) (h39:(c.toNat:Int) ≠ 39) (hl:letterP (c.toNat:Int) = false) (hd:digitP (c.toNat:Int) = false)
    (h2:preP (c :: R) [45,45] = false) (hs:sgP (c :: R) = 1):Piece [c] [⟨4,[c],0⟩] R := by
  have ed:dc ([c] ++ R) = (c.toNat,1) := dc_ascii hc
  refine Piece.word (by simp) (.inl ⟨c,rfl,hc⟩) (by rw [ed]; exact hb) h2 (by rw [ed]; simp only; omega) (fun ws => ?_)
  rw [ed]
  unfold wordP
  rw [if_neg h39,hl,if_neg (by decide),hd,if_neg (by decide)]
  rw [show [c] ++ R = c :: R from rfl,hs]
  rfl
theorem sg1 {c:UInt8} {R:List UInt8} (h1:c ≠ 60) (h2:c ≠ 62) (hi:0 ≤ Lib.indexByte [40,41,44,46,59,42,43,45,61,60,62] c):sgP (c :: R) = 1 := by
  have p1:∀ d,preP (c :: R) [60,d] = false := fun d => by
    unfold preP
    cases R with
    | nil => simp
    | cons a R => simp [h1]
  have p2:∀ d,preP (c :: R) [62,d] = false := fun d => by
    unfold preP
    cases R with
    | nil => simp
    | cons a R => simp [h2]
  unfold sgP
  rw [p1,p1,p2,if_neg (by decide),List.headD_cons,if_pos hi]
theorem pre45 {c:UInt8} {R:List UInt8} (h:c ≠ 45 ∨ ∀ R',R ≠ 45 :: R'):preP (c :: R) [45,45] = false := by
  unfold preP
  cases R with
  | nil => simp
  | cons a R =>
    rcases h with h | h
    · simp [h]
    · have:a ≠ 45 := fun z => h R (by rw [z])
      simp [this]
theorem Piece.lp {R:List UInt8}:Piece [40] [⟨4,[40],0⟩] R := .sign1 (by decide) (by decide) (by decide) (by decide) (by decide) (pre45 (.inl (by decide))) (sg1 (by decide) (by decide) (by decide))
theorem Piece.rp {R:List UInt8}:Piece [41] [⟨4,[41],0⟩] R := .sign1 (by decide) (by decide) (by decide) (by decide) (by decide) (pre45 (.inl (by decide))) (sg1 (by decide) (by decide) (by decide))
theorem Piece.star {R:List UInt8}:Piece [42] [⟨4,[42],0⟩] R := .sign1 (by decide) (by decide) (by decide) (by decide) (by decide) (pre45 (.inl (by decide))) (sg1 (by decide) (by decide) (by decide))
theorem Piece.dot {R:List UInt8}:Piece [46] [⟨4,[46],0⟩] R := .sign1 (by decide) (by decide) (by decide) (by decide) (by decide) (pre45 (.inl (by decide))) (sg1 (by decide) (by decide) (by decide))
theorem Piece.minus {R:List UInt8} (h:∀ R',R ≠ 45 :: R'):Piece [45] [⟨4,[45],0⟩] R := .sign1 (by decide) (by decide) (by decide) (by decide) (by decide) (pre45 (.inr h)) (sg1 (by decide) (by decide) (by decide))
theorem Piece.plus {R:List UInt8}:Piece [43] [⟨4,[43],0⟩] R := .sign1 (by decide) (by decide) (by decide) (by decide) (by decide) (pre45 (.inl (by decide))) (sg1 (by decide) (by decide) (by decide))
theorem Piece.equal {R:List UInt8}:Piece [61] [⟨4,[61],0⟩] R := .sign1 (by decide) (by decide) (by decide) (by decide) (by decide) (pre45 (.inl (by decide))) (sg1 (by decide) (by decide) (by decide))
theorem sgSp {c:UInt8} {R:List UInt8} (hi:0 ≤ Lib.indexByte [40,41,44,46,59,42,43,45,61,60,62] c):sgP (c :: 32 :: R) = 1 := by
  have p1:∀ a d,d ≠ 32 → preP (c :: 32 :: R) [a,d] = false := fun a d h => by
    unfold preP
    have:(32:UInt8) ≠ d := fun z => h z.symm
    simp [this]
  unfold sgP
  rw [p1 _ _ (by decide),p1 _ _ (by decide),p1 _ _ (by decide),if_neg (by decide),List.headD_cons,if_pos hi]
theorem Piece.less {R:List UInt8}:Piece [60] [⟨4,[60],0⟩] (32 :: R) := .sign1 (by decide) (by decide) (by decide) (by decide) (by decide) (pre45 (.inl (by decide))) (sgSp (by decide))
theorem Piece.more {R:List UInt8}:Piece [62] [⟨4,[62],0⟩] (32 :: R) := .sign1 (by decide) (by decide) (by decide) (by decide) (by decide) (pre45 (.inl (by decide))) (sgSp (by decide))
theorem Piece.sign2 {c d:UInt8} {R:List UInt8} (hc:c.toNat < 128) (hb:blankP (c.toNat:Int) = false) (h39:(c.toNat:Int) ≠ 39) (hl:letterP (c.toNat:Int) = false) (hd:digitP (c.toNat:Int) = false)
    (h2:c ≠ 45) (hR:As R) (hs:sgP (c :: d :: R) = 2):Piece [c,d] [⟨4,[c,d],0⟩] R := by
  have ed:dc ([c,d] ++ R) = (c.toNat,1) := dc_ascii hc
  refine Piece.word (by simp) (.inr hR) (by rw [ed]; exact hb) (pre45 (.inl h2)) (by rw [ed]; simp only; omega) (fun ws => ?_)
  rw [ed]
  unfold wordP
  rw [if_neg h39,hl,if_neg (by decide),hd,if_neg (by decide)]
  rw [show [c,d] ++ R = c :: d :: R from rfl,hs]
  rfl
theorem sg2 {c d:UInt8} {R:List UInt8} (h:(c = 60 ∧ d = 62) ∨ (c = 60 ∧ d = 61) ∨ (c = 62 ∧ d = 61)):sgP (c :: d :: R) = 2 := by
  unfold sgP
  rcases h with ⟨rfl,rfl⟩ | ⟨rfl,rfl⟩ | ⟨rfl,rfl⟩ <;> simp [preP]
def opWd (op:List UInt8):Wd := ⟨if op = [79,82] ∨ op = [65,78,68] then 1 else 4,op,0⟩
theorem Piece.op {op R:List UInt8} (h:inP op ops4 = true):Piece op [opWd op] (32 :: R) := by
  simp only [inP,ops4,List.any_cons,List.any_nil,Bool.or_false,Bool.or_eq_true,beq_iff_eq] at h
  rcases h with rfl | rfl | rfl | rfl | rfl | rfl | rfl | rfl | rfl | rfl | rfl
  · exact Piece.name (by decide) Nx.sp
  · exact Piece.name (by decide) Nx.sp
  · exact Piece.equal
  · exact Piece.sign2 (by decide) (by decide) (by decide) (by decide) (by decide) (by decide) Nx.sp.as (sg2 (by simp))
  · exact Piece.less
  · exact Piece.sign2 (by decide) (by decide) (by decide) (by decide) (by decide) (by decide) Nx.sp.as (sg2 (by simp))
  · exact Piece.more
  · exact Piece.sign2 (by decide) (by decide) (by decide) (by decide) (by decide) (by decide) Nx.sp.as (sg2 (by simp))
  · exact Piece.plus
  · exact Piece.minus (fun R' z => by injection z with z1 z2; exact absurd z1 (by decide))
  · exact Piece.star
end Go.Proofs.YtjpjeilfmjdhcaaDoor.Eb
