/- ExprBack, the plain law: an expression's text and its words; the text's words are those. No condition. -/
import Derived.Test.YtjpjeilfmjdhcaaDoorLoP
import Derived.Test.YtjpjeilfmjdhcaaDoorPrT
namespace Go.Proofs.YtjpjeilfmjdhcaaDoor.Eb
open Go Go.Proofs.YtjpjeilfmjdhcaaDoor.E
open Go.Proofs.YtjpjeilfmjdhcaaDoor.Ln
open Go.Proofs.YtjpjeilfmjdhcaaDoor.Ex
open Go.Proofs.YtjpjeilfmjdhcaaDoor.Pr
open Go.Proofs.YtjpjeilfmjdhcaaDoor.Lo
set_option maxRecDepth 100000
set_option linter.unusedVariables false
set_option linter.unusedSimpArgs false
/-! ### Numbers in digits -/
def decF:Nat → Nat → List UInt8
  | 0,_ => []
  | f + 1,n => if n < 10 then [UInt8.ofNat (48 + n)] else decF f (n / 10) ++ [UInt8.ofNat (48 + n % 10)]
def decP (n:Nat):List UInt8 := decF 20 n
def fv (a:Nat) (t:List UInt8):Nat := t.foldl (fun a c => 10 * a + (c.toNat - 48)) a
theorem fv_ge:∀ (t:List UInt8) (a:Nat),a ≤ fv a t
  | [],a => Nat.le_refl _
  | c :: t,a => Nat.le_trans (by omega) (fv_ge t (10 * a + (c.toNat - 48)))
def Dg (t:List UInt8):Prop := ∀ c,c ∈ t → 48 ≤ c.toNat ∧ c.toNat ≤ 57
theorem dgt {k:Nat} (h:k < 10):(UInt8.ofNat (48 + k)).toNat = 48 + k := by
  rw [show (UInt8.ofNat (48 + k)).toNat = (48 + k) % 256 from rfl]; omega
theorem decF_dg:∀ (f n:Nat),Dg (decF f n)
  | 0,n => fun c h => by cases h
  | f + 1,n => by
    intro c h
    rw [decF] at h
    split at h
    · rename_i q
      rw [List.mem_singleton] at h
      subst h
      rw [dgt q]; omega
    · rcases List.mem_append.1 h with h | h
      · exact decF_dg f _ c h
      · rw [List.mem_singleton] at h
        subst h
        rw [dgt (Nat.mod_lt _ (by decide))]; omega
theorem fv_app (a:Nat) (t u:List UInt8):fv a (t ++ u) = fv (fv a t) u := by simp [fv]
theorem decF_fv:∀ (f n:Nat),n < 10 ^ f → fv 0 (decF f n) = n
  | 0,n,h => by
    have:n = 0 := by simpa using h
    subst this; rfl
  | f + 1,n,h => by
    rw [decF]
    split
    · rename_i q
      show 10 * 0 + ((UInt8.ofNat (48 + n)).toNat - 48) = n
      rw [dgt q]; omega
    · rw [fv_app,decF_fv f (n / 10) (by rw [Nat.pow_succ] at h; omega)]
      show 10 * (n / 10) + ((UInt8.ofNat (48 + n % 10)).toNat - 48) = n
      rw [dgt (Nat.mod_lt _ (by decide))]; omega
theorem decF_ne:∀ (f n:Nat),decF (f + 1) n ≠ []
  | f,n => by
    rw [decF]
    split <;> simp
theorem decF_head:∀ (f n:Nat),0 < n → n < 10 ^ f → ∃ c r,decF f n = c :: r ∧ c ≠ 48
  | 0,n,h0,h => by
    have:n < 1 := by simpa using h
    omega
  | f + 1,n,h0,h => by
    rw [decF]
    split
    · rename_i q
      refine ⟨_,[],rfl,fun z => ?_⟩
      have := congrArg UInt8.toNat z
      rw [dgt q] at this
      have e:(48:UInt8).toNat = 48 := rfl
      omega
    · obtain ⟨c,r,e,hc⟩ := decF_head f (n / 10) (by omega) (by rw [Nat.pow_succ] at h; omega)
      exact ⟨c,r ++ [UInt8.ofNat (48 + n % 10)],by rw [e]; rfl,hc⟩
theorem wrap_i32 {n:Int} (h1 : -2147483648 ≤ n) (h2:n ≤ 2147483647):IntKind.i32.wrap n = n := by
  simp only [IntKind.wrap,IntKind.signed,IntKind.bits,Bool.true_and,decide_eq_true_eq,ge_iff_le]
  have e:(2:Int) ^ 32 = 4294967296 := by decide
  have e2:(2:Int) ^ (32 - 1) = 2147483648 := by decide
  simp only [e,e2]
  split <;> omega
theorem vl_eq:∀ (t:List UInt8) (a m:Nat),t.length ≤ m → Dg t → fv a t ≤ 9223372036854775807 → vlP m (a:Int) t = some ((fv a t:Nat):Int)
  | [],a,0,_,_,_ => rfl
  | [],a,m + 1,_,_,_ => by rw [vlP,if_pos rfl]; rfl
  | c :: t,a,0,h,_,_ => by simp at h
  | c :: t,a,m + 1,h,hd,hf => by
    have hc := hd c (by simp)
    have e1:fv a (c :: t) = fv (10 * a + (c.toNat - 48)) t := rfl
    rw [e1] at hf ⊢
    have hg := fv_ge t (10 * a + (c.toNat - 48))
    have dg:digitP ((c.toNat:Nat):Int) = true := by
      unfold digitP
      rw [decide_eq_true (by omega),decide_eq_true (by omega)]; rfl
    have ew:IntKind.u64.wrap (IntKind.u64.wrap (10 * (a:Int)) + IntKind.u64.wrap (IntKind.i32.wrap ((c.toNat:Int) - 48))) = ((10 * a + (c.toNat - 48):Nat):Int) := by
      rw [wrap_i32 (by omega) (by omega),wrap_u64,wrap_u64,wrap_u64]
      omega
    have hd1:(dc (c :: t)).1 = c.toNat := by rw [dc_ascii (by omega)]
    have hd2:(dc (c :: t)).2 = 1 := by rw [dc_ascii (by omega)]
    rw [vlP,if_neg (by simp),hd1,hd2,if_pos dg,if_neg (by omega),ew]
    exact vl_eq t _ m (by simpa using h) (fun x hx => hd x (by simp [hx])) hf
/-! ### What follows -/
def As (R:List UInt8):Prop := ∀ b R',R = b :: R' → b.toNat < 128
def Nx (R:List UInt8):Prop := ∀ b R',R = b :: R' → b.toNat < 128 ∧ letterP (b.toNat:Int) = false ∧ digitP (b.toNat:Int) = false
def Fw (R:List UInt8):Prop := R = [] ∨ (∃ R',R = 32 :: R') ∨ ∃ R',R = 41 :: R'
theorem Nx.as {R:List UInt8} (h:Nx R):As R := fun b R' e => (h b R' e).1
theorem Nx.cons {b:UInt8} {R:List UInt8} (h1:b.toNat < 128) (h2:letterP (b.toNat:Int) = false) (h3:digitP (b.toNat:Int) = false):Nx (b :: R) := fun c R' e => by
  injection e with e1 e2
  subst e1
  exact ⟨h1,h2,h3⟩
theorem Nx.sp {R:List UInt8}:Nx (32 :: R) := .cons (by decide) (by decide) (by decide)
theorem Fw.nx {R:List UInt8} (h:Fw R):Nx R := by
  rcases h with rfl | ⟨R',rfl⟩ | ⟨R',rfl⟩
  · intro b R' e; cases e
  · exact .sp
  · exact .cons (by decide) (by decide) (by decide)
theorem dc_appb {b:UInt8} (hb:b.toNat < 128) (a:UInt8) (t R:List UInt8):dc (a :: t ++ b :: R) = dc (a :: t) := by
  have h2:¬ b.toNat / 64 = 2 := by omega
  unfold dc
  rw [dec_eq,dec_eq]
  match t with
  | [] => simp [byteAt,h2]
  | [c] => simp [byteAt,h2]
  | [c,d] => simp [byteAt,h2]
  | c :: d :: e :: u => simp [byteAt]
theorem dc_as {R t:List UInt8} (h:As R) (ht:t ≠ []):dc (t ++ R) = dc t := by
  cases t with
  | nil => exact absurd rfl ht
  | cons a t =>
    cases R with
    | nil => rw [List.append_nil]
    | cons b R => exact dc_appb (h b R rfl) a t R
theorem skip {R:List UInt8} (hR:As R) (ws:List Wd):∀ (k:Nat) (p:List UInt8),p.length ≤ k → scan (p ++ R).length (p ++ R) p.length false ws 0 = scan R.length R 0 false ws 0
  | 0,p,h => by
    have:p = [] := List.eq_nil_of_length_eq_zero (by omega)
    subst this; rfl
  | k + 1,p,h => by
    by_cases c:p = []
    · subst c; rfl
    · have hw := dc_width p c
      have hl:0 < p.length := List.length_pos_iff.2 c
      obtain ⟨m,hm⟩:∃ m,(p ++ R).length = m + 1 := ⟨(p ++ R).length - 1,by simp; omega⟩
      have e:stepP (p ++ R) p.length false ws = (p.length,false,(ws,0)) := by
        unfold stepP
        rw [if_neg (by decide),if_pos hl]
      rw [hm,scan,if_neg (by simp [c]),if_neg (fun x => x rfl),e,dc_as hR c,List.drop_append_of_le_length hw.2]
      show scan m (p.drop (dc p).2 ++ R) (p.length - (dc p).2) false ws 0 = _
      rw [← List.length_drop,scan_fuel m (p.drop (dc p).2 ++ R).length _ _ _ _ _ (by simp at hm ⊢; omega) (Nat.le_refl _)]
      exact skip hR ws k _ (by simp; omega)
theorem scan_no {e:Int} (h:e ≠ 0):∀ (m:Nat) (t:List UInt8) (sk:Nat) (nt:Bool) (ws:List Wd),scan m t sk nt ws e = (none,e)
  | 0,t,sk,nt,ws => by rw [scan,finP,if_neg h]
  | m + 1,t,sk,nt,ws => by
    rw [scan]
    split
    · rw [finP,if_neg h]
    · rfl
/-! ### Pieces -/
def Piece (p:List UInt8) (ys:List Wd) (R:List UInt8):Prop := ∀ ws:List Wd,ws.length ≤ 600 → scan (p ++ R).length (p ++ R) 0 false ws 0 = if ws.length + ys.length ≤ 600 then scan R.length R 0 false (ws ++ ys) 0 else (none,5)
theorem Piece.nil {R:List UInt8}:Piece [] [] R := fun ws h => by
  rw [if_pos (by simpa using h),List.append_nil,List.nil_append]
theorem Piece.app {p q R:List UInt8} {ys zs:List Wd} (a:Piece p ys (q ++ R)) (b:Piece q zs R):Piece (p ++ q) (ys ++ zs) R := fun ws h => by
  rw [List.append_assoc,a ws h]
  by_cases c:ws.length + ys.length ≤ 600
  · rw [if_pos c,b (ws ++ ys) (by simpa using c),List.append_assoc]
    simp only [List.length_append,Nat.add_assoc]
  · rw [if_neg c,if_neg (by simp only [List.length_append]; omega)]
theorem Piece.cons {c:UInt8} {q R:List UInt8} {ys zs:List Wd} (a:Piece [c] ys (q ++ R)) (b:Piece q zs R):Piece (c :: q) (ys ++ zs) R := Piece.app a b
theorem pre_dash {t:List UInt8} (h:((dc t).1:Int) ≠ 45):preP t [45,45] = false := by
  cases e:preP t [45,45] with
  | false => rfl
  | true =>
    unfold preP at e
    simp only [Bool.and_eq_true,decide_eq_true_eq,beq_iff_eq] at e
    obtain ⟨e1,e2⟩ := e
    cases t with
    | nil => simp at e1
    | cons a t =>
      simp only [List.length_cons,List.length_nil,List.take_succ_cons,List.cons.injEq] at e2
      rw [e2.1,dc_ascii (by decide)] at h
      exact absurd rfl h
theorem Piece.word {p R:List UInt8} {w:Wd} (hp:p ≠ []) (hk:(∃ a:UInt8,p = [a] ∧ a.toNat < 128) ∨ As R) (hb:blankP (dc (p ++ R)).1 = false) (hn:preP (p ++ R) [45,45] = false) (h65:((dc (p ++ R)).1:Int) ≠ 65533)
    (hw:∀ ws,wordP (dc (p ++ R)).1 (p ++ R) ws 0 = (p.length,addP true w ws 0)):Piece p [w] R := fun ws h => by
  have hl:0 < p.length := List.length_pos_iff.2 hp
  obtain ⟨m,hm⟩:∃ m,(p ++ R).length = m + 1 := ⟨(p ++ R).length - 1,by simp; omega⟩
  have e:stepP (p ++ R) 0 false ws = (p.length,false,addP true w ws 0) := by
    unfold stepP
    rw [if_neg (by decide),if_neg (by decide),hb,if_neg (by decide),hn,if_neg (by decide),if_neg,hw]
    simp [h65]
  have hwd := dc_width (p ++ R) (by simp [hp])
  rw [hm,scan,if_neg (by simp [hp]),if_neg (fun x => x rfl),e]
  by_cases c:ws.length = 600
  · have ea:addP true w ws 0 = (ws,5) := by
      unfold addP
      rw [if_neg (by decide),if_pos c]
    rw [ea,if_neg (by simp; omega)]
    exact scan_no (e := 5) (by decide) _ _ _ _ _
  · have ea:addP true w ws 0 = (ws ++ [w],0) := by
      unfold addP
      rw [if_neg (by decide),if_neg c]
    rw [ea,if_pos (by simp; omega)]
    show scan m ((p ++ R).drop (dc (p ++ R)).2) (p.length - (dc (p ++ R)).2) false (ws ++ [w]) 0 = _
    have main:(dc (p ++ R)).2 ≤ p.length → (p.length - (dc (p ++ R)).2 = 0 ∨ As R) → scan m ((p ++ R).drop (dc (p ++ R)).2) (p.length - (dc (p ++ R)).2) false (ws ++ [w]) 0 = scan R.length R 0 false (ws ++ [w]) 0 := by
      intro h1 h2
      rw [List.drop_append_of_le_length h1,← List.length_drop,scan_fuel m (p.drop (dc (p ++ R)).2 ++ R).length _ _ _ _ _ (by simp at hm ⊢; omega) (Nat.le_refl _)]
      rcases h2 with h2 | h2
      · have:p.drop (dc (p ++ R)).2 = [] := List.drop_of_length_le (by omega)
        rw [this]; rfl
      · exact skip h2 _ _ _ (Nat.le_refl _)
    rcases hk with ⟨a,rfl,ha⟩ | hk
    · have hw1:(dc ([a] ++ R)).2 = 1 := by rw [List.singleton_append,dc_ascii ha]
      exact main (by rw [hw1]; simp) (.inl (by rw [hw1]; rfl))
    · exact main (by rw [dc_as hk hp]; exact (dc_width p hp).2) (.inr hk)
end Go.Proofs.YtjpjeilfmjdhcaaDoor.Eb
