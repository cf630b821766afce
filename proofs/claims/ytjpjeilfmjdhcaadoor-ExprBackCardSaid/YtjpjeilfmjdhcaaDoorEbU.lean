/- ExprBack: the library's numerals and replaced bytes are the plain law's; how long a text can be. No condition. -/
import Derived.Test.YtjpjeilfmjdhcaaDoorEbT
import Derived.Test.YtjpjeilfmjdhcaaDoorLb
namespace Go.Proofs.YtjpjeilfmjdhcaaDoor.Eb
open Go Go.Proofs.YtjpjeilfmjdhcaaDoor.E
open Go.Proofs.YtjpjeilfmjdhcaaDoor.Ln
open Go.Proofs.YtjpjeilfmjdhcaaDoor.Ex
open Go.Proofs.YtjpjeilfmjdhcaaDoor.Pr
open Go.Proofs.YtjpjeilfmjdhcaaDoor.Lb
set_option maxRecDepth 100000
set_option linter.unusedVariables false
set_option linter.unusedSimpArgs false
theorem dec_digits:∀ (f n:Nat),n < 10 ^ (f + 1) → decF (f + 1) n = Lib.decDigits n
  | 0,n,h => by
    rw [decF,Lib.decDigits,if_pos (by omega),dif_pos (by omega)]
  | f + 1,n,h => by
    rw [decF,Lib.decDigits]
    by_cases c:n < 10
    · rw [if_pos c,dif_pos c]
    · rw [if_neg c,dif_neg c,dec_digits f (n / 10) (by rw [Nat.pow_succ] at h; omega)]
theorem itoa_dec {n:Int} (h0:0 ≤ n) (h1:n ≤ 9223372036854775807):Lib.itoa n = decP n.toNat := by
  unfold Lib.itoa decP
  rw [if_neg (by omega),dec_digits 19 _ (Nat.lt_of_le_of_lt (show n.toNat ≤ 9223372036854775807 by omega) (by decide))]
theorem rk_ne {c:UInt8} (h:c ≠ 39) (new t:List UInt8):∀ k,Lib.replaceK [39] new k (c :: t) = c :: Lib.replaceK [39] new k t
  | 0 => rfl
  | k + 1 => by
    have e:Lib.index (c :: t) [39] = if Lib.index t [39] == -1 then -1 else Lib.index t [39] + 1 := by
      rw [Lib.index]
      have:([39]:List UInt8).isPrefixOf (c :: t) = false := by
        have:((39:UInt8) == c) = false := by simpa using fun z => h z.symm
        simp [List.isPrefixOf,this]
      rw [this]; rfl
    have hg := Lib.index_ge t [39]
    by_cases q:Lib.index t [39] = -1
    · have e2:Lib.index (c :: t) [39] = -1 := by rw [e,q]; rfl
      rw [Lib.replaceK,Lib.replaceK,e2,q]; rfl
    · have e2:Lib.index (c :: t) [39] = Lib.index t [39] + 1 := by
        rw [e,if_neg (by simpa using q)]
      have n1:¬ (Lib.index (c :: t) [39] == -1) = true := by
        rw [e2,beq_iff_eq]; omega
      have n2:¬ (Lib.index t [39] == -1) = true := by rw [beq_iff_eq]; exact q
      obtain ⟨i,hi⟩:∃ i:Nat,Lib.index t [39] = i := ⟨(Lib.index t [39]).toNat,by omega⟩
      rw [Lib.replaceK,Lib.replaceK,if_neg n1,if_neg n2,e2,hi]
      have t1:((i:Int) + 1).toNat = i + 1 := by omega
      have t2:(i:Int).toNat = i := Int.toNat_natCast i
      rw [t1,t2]
      simp only [List.take_succ_cons,List.cons_append,List.length_cons,List.length_nil,Nat.zero_add,List.drop_succ_cons]
theorem rk_eq (new t:List UInt8) (k:Nat):Lib.replaceK [39] new (k + 1) (39 :: t) = new ++ Lib.replaceK [39] new k t := by
  have e:Lib.index (39 :: t) [39] = 0 := by
    rw [Lib.index]
    have:([39]:List UInt8).isPrefixOf (39 :: t) = true := by simp [List.isPrefixOf]
    rw [this]; rfl
  rw [Lib.replaceK,e]
  rfl
theorem rk_dbl:∀ (s:List UInt8) (k:Nat),s.count 39 ≤ k → Lib.replaceK [39] [39,39] k s = dblP s
  | [],0,h => rfl
  | [],k + 1,h => rfl
  | c :: s,k,h => by
    by_cases q:c = 39
    · subst q
      rw [List.count_cons_self] at h
      obtain ⟨k,rfl⟩:∃ j,k = j + 1 := ⟨k - 1,by omega⟩
      rw [rk_eq,rk_dbl s k (by omega),dblP,if_pos rfl]
      rfl
    · rw [List.count_cons_of_ne q] at h
      rw [rk_ne q,rk_dbl s k h,dblP,if_neg q]
theorem all_dbl (s:List UInt8):Lib.replaceAll s [39] [39,39] = dblP s := by
  unfold Lib.replaceAll Lib.replace Lib.replaceNum
  rw [if_neg (by decide),if_pos (.inl (by decide)),Lib.count_one]
  exact rk_dbl s _ (Nat.le_refl _)
/-! ### How long -/
theorem dc_w4 (t:List UInt8):(dc t).2 ≤ 4 := by
  unfold dc
  rw [dec_eq]
  simp only
  repeat' split
  all_goals simp
theorem nm_len:∀ (m n:Nat) (t:List UInt8) (k:Nat),nmP m n t = some k → t.length ≤ m → t.length + 4 * n ≤ 4 * k
  | 0,n,t,k,h,hl => by
    injection h with h
    omega
  | m + 1,n,t,k,h,hl => by
    rw [nmP] at h
    by_cases c:t = []
    · rw [if_pos c] at h
      injection h with h
      subst c
      simp; omega
    · rw [if_neg c] at h
      have hw := dc_width t c
      have h4 := dc_w4 t
      split at h
      · have := nm_len m (n + 1) _ k h (by simp; omega)
        simp only [List.length_drop] at this
        omega
      · cases h
theorem named_len {s:List UInt8} (h:namedP s = true):s.length ≤ 64 := by
  unfold namedP at h
  cases e:nmP s.length 0 s with
  | none => rw [e] at h; cases h
  | some n =>
    rw [e] at h
    simp only [Bool.and_eq_true,decide_eq_true_eq] at h
    have := nm_len _ _ _ _ e (Nat.le_refl _)
    omega
theorem decF_len:∀ (f n:Nat),(decF f n).length ≤ f
  | 0,n => Nat.le_refl _
  | f + 1,n => by
    rw [decF]
    split
    · simp
    · have := decF_len f (n / 10)
      simp; omega
theorem dbl_len:∀ s:List UInt8,(dblP s).length ≤ 2 * s.length
  | [] => Nat.le_refl _
  | c :: s => by
    have := dbl_len s
    rw [dblP]
    split <;> simp <;> omega
def bnd:Nat → Nat
  | 0 => 0
  | d + 1 => 2 * bnd d + 300
theorem ops_len {op:List UInt8} (h:inP op ops4 = true):op.length ≤ 3 := by
  simp only [inP,ops4,List.any_cons,List.any_nil,Bool.or_false,Bool.or_eq_true,beq_iff_eq] at h
  rcases h with rfl | rfl | rfl | rfl | rfl | rfl | rfl | rfl | rfl | rfl | rfl <;> decide
theorem aggs_len {op:List UInt8} (h:inP op aggs = true):op.length ≤ 5 := by
  simp only [inP,aggs,List.any_cons,List.any_nil,Bool.or_false,Bool.or_eq_true,beq_iff_eq] at h
  rcases h with rfl | rfl | rfl | rfl <;> decide
theorem trim_len (s:List UInt8):(trimP s).length ≤ s.length := by
  unfold trimP
  split
  · simp
  · exact Nat.le_refl _
theorem raw_len (d:Nat) (IH:∀ x l,Fm d x → (txtB d x l).length ≤ bnd d) {n:Nd} {ps:List X} (h:Fm (d + 1) (.mk n ps)):(rawT (txtB d) n ps).length ≤ 2 * bnd d + 298 := by
  generalize hx:X.mk n ps = x at h
  generalize hd:d + 1 = d1 at h
  cases h with
  | @int d' v h =>
    injection hx with e1 e2; subst e1; subst e2
    have:(decP (Int.toNat (v:Int))).length ≤ 20 := decF_len 20 _
    show (decP (Int.toNat (v:Int))).length ≤ _
    omega
  | @txt d' s h =>
    injection hx with e1 e2; subst e1; subst e2
    have := dbl_len s
    show (quoteP s).length ≤ _
    simp [quoteP]; omega
  | nul =>
    injection hx with e1 e2; subst e1; subst e2
    show (4:Nat) ≤ _
    omega
  | @col d' t c h h2 =>
    injection hx with e1 e2; subst e1; subst e2
    have hc := named_len (name_facts h).1
    have ht:t.length ≤ 64 := by
      rcases h2 with rfl | h2
      · simp
      · exact named_len (name_facts h2).1
    have := trim_len (t ++ 46 :: c)
    show (trimP (t ++ 46 :: c)).length ≤ _
    simp at this
    omega
  | @neg d' p h =>
    injection hx with e1 e2; subst e1; subst e2
    obtain rfl:d = d' := by omega
    have := IH p 7 h
    show (45 :: txtB d p 7).length ≤ _
    simp; omega
  | @no d' p h =>
    injection hx with e1 e2; subst e1; subst e2
    obtain rfl:d = d' := by omega
    have := IH p 2 h
    show (kNot ++ 32 :: txtB d p 2).length ≤ _
    simp; omega
  | @bin d' op p q h hp hq =>
    injection hx with e1 e2; subst e1; subst e2
    obtain rfl:d = d' := by omega
    have h1 := IH p (lftP (levelP op)) hp
    have h2 := IH q (levelP op + 1) hq
    have h3 := ops_len h
    show (txtB d p (lftP (levelP op)) ++ (32 :: (op ++ (32 :: txtB d q (levelP op + 1))))).length ≤ _
    simp; omega
  | @isn d' p h =>
    injection hx with e1 e2; subst e1; subst e2
    obtain rfl:d = d' := by omega
    have := IH p 4 h
    show (txtB d p 4 ++ (32 :: [73,83,32,78,85,76,76])).length ≤ _
    simp; omega
  | @isnn d' p h =>
    injection hx with e1 e2; subst e1; subst e2
    obtain rfl:d = d' := by omega
    have := IH p 4 h
    show (txtB d p 4 ++ (32 :: [73,83,32,78,79,84,32,78,85,76,76])).length ≤ _
    simp; omega
  | @agg d' op p h hp =>
    injection hx with e1 e2; subst e1; subst e2
    obtain rfl:d = d' := by omega
    have := IH p 0 hp
    have h3 := aggs_len h
    show (op ++ (40 :: (txtB d p 0 ++ [41]))).length ≤ _
    simp; omega
  | cnt =>
    injection hx with e1 e2; subst e1; subst e2
    show (8:Nat) ≤ _
    omega
theorem txt_len:∀ (d:Nat) (x:X) (l:Nat),Fm d x → (txtB d x l).length ≤ bnd d
  | 0,x,l,h => by cases h
  | d + 1,.mk n ps,l,h => by
    have := raw_len d (txt_len d) h
    rw [txtB,wrT,bnd]
    split
    · simp; omega
    · omega
theorem bnd_le {d:Nat} (h:d ≤ 8):bnd d ≤ 100000 := by
  have:d = 0 ∨ d = 1 ∨ d = 2 ∨ d = 3 ∨ d = 4 ∨ d = 5 ∨ d = 6 ∨ d = 7 ∨ d = 8 := by omega
  rcases this with rfl | rfl | rfl | rfl | rfl | rfl | rfl | rfl | rfl <;> decide
end Go.Proofs.YtjpjeilfmjdhcaaDoor.Eb
