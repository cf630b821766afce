/- ExprBack, the plain law: the reader, over an expression's words, reads it. No condition. -/
import Derived.Test.YtjpjeilfmjdhcaaDoorEbR
namespace Go.Proofs.YtjpjeilfmjdhcaaDoor.Eb
open Go Go.Proofs.YtjpjeilfmjdhcaaDoor.E
open Go.Proofs.YtjpjeilfmjdhcaaDoor.Ln
open Go.Proofs.YtjpjeilfmjdhcaaDoor.Ex
open Go.Proofs.YtjpjeilfmjdhcaaDoor.Pr
open Go.Proofs.YtjpjeilfmjdhcaaDoor.Lo
set_option maxRecDepth 100000
set_option linter.unusedVariables false
set_option linter.unusedSimpArgs false
/-! ### The reader's steps, by what is left -/
theorem left_cons {ws r:List Wd} {w:Wd} {i:Nat} (h:ws.drop i = w :: r):ws[i]? = some w ∧ ws.drop (i + 1) = r ∧ i < ws.length := by
  have hl:i < ws.length := by
    have := congrArg List.length h
    simp at this; omega
  rw [List.drop_eq_getElem_cons hl] at h
  injection h with h1 h2
  exact ⟨by rw [List.getElem?_eq_getElem hl,h1],h2,hl⟩
theorem left_nil {ws:List Wd} {i:Nat} (h:ws.drop i = []):ws[i]? = none := by
  rw [List.getElem?_eq_none_iff]
  simpa using h
theorem left_app {ws a b:List Wd} {i:Nat} (h:ws.drop i = a ++ b):ws.drop (i + a.length) = b := by
  rw [← List.drop_drop,h,List.drop_left']
  rfl
theorem nx_cons {ws r:List Wd} {w:Wd} {i:Nat} (h:ws.drop i = w :: r) (k:Int):nextP ws k ⟨i,0⟩ = if w.k = k then some w else none := by
  unfold nextP
  rw [if_pos rfl,(left_cons h).1]
theorem nx_nil {ws:List Wd} {i:Nat} (h:ws.drop i = []) (k:Int):nextP ws k ⟨i,0⟩ = none := by
  unfold nextP
  rw [if_pos rfl,left_nil h]
def kdP (t:List UInt8):Int := if kwP t = true then 1 else 4
theorem have_yes {ws r:List Wd} {t:List UInt8} {n:Int} {i:Nat} (h:ws.drop i = ⟨kdP t,t,n⟩ :: r):haveP ws t ⟨i,0⟩ = (true,⟨i + 1,0⟩) := by
  unfold haveP
  rw [nx_cons h,if_pos (show (Wd.mk (kdP t) t n).k = (if kwP t = true then 1 else 4) from rfl)]
  simp only [if_true]
  rfl
theorem have_no {ws:List Wd} {t:List UInt8} {i:Nat} (h:∀ w r,ws.drop i = w :: r → w.k ≠ kdP t ∨ w.s ≠ t):haveP ws t ⟨i,0⟩ = (false,⟨i,0⟩) := by
  unfold haveP
  cases e:ws.drop i with
  | nil => rw [nx_nil e]
  | cons w r =>
    rw [nx_cons e]
    rcases h w r e with h | h
    · rw [if_neg (show ¬ w.k = (if kwP t = true then 1 else 4) from h)]
    · by_cases c:w.k = (if kwP t = true then 1 else 4)
      · rw [if_pos c]
        simp only [if_neg h]
      · rw [if_neg c]
theorem want_yes {ws r:List Wd} {t:List UInt8} {n:Int} {i:Nat} (h:ws.drop i = ⟨kdP t,t,n⟩ :: r):wantP ws [t] ⟨i,0⟩ = ⟨i + 1,0⟩ := by
  show want1 ws ⟨i,0⟩ t = _
  unfold want1
  rw [have_yes h,if_pos rfl]
/-! ### What may stand behind -/
def Stp (L:Nat) (rest:List Wd):Prop := ∀ w r,rest = w :: r → w = wRp ∨ (levelP w.s < L ∧ inP w.s ops4 = true ∧ w = opWd w.s) ∨ (w = wIs ∧ 4 ≤ L)
theorem Stp.mono {L M:Nat} {rest:List Wd} (h:Stp L rest) (q:L ≤ M):Stp M rest := fun w r e => by
  rcases h w r e with h | ⟨h1,h2⟩ | ⟨h1,h2⟩
  · exact .inl h
  · exact .inr (.inl ⟨by omega,h2⟩)
  · exact .inr (.inr ⟨h1,by omega⟩)
theorem Stp.nil {L:Nat}:Stp L [] := fun w r e => by cases e
theorem Stp.rp {L:Nat} {r:List Wd}:Stp L (wRp :: r) := fun w r e => by
  injection e with e1 e2
  exact .inl e1.symm
theorem Stp.op {L:Nat} {op:List UInt8} {r:List Wd} (h:inP op ops4 = true) (h2:levelP op < L):Stp L (opWd op :: r) := fun w r e => by
  injection e with e1 e2
  subst e1
  exact .inr (.inl ⟨h2,h,rfl⟩)
theorem opWd_kind (op:List UInt8):(opWd op).k = 1 ∨ (opWd op).k = 4 := by
  unfold opWd
  simp only
  split
  · exact .inl rfl
  · exact .inr rfl
/-- The next word, as an operator. -/
theorem op_at {ws r:List Wd} {op:List UInt8} {i:Nat} (h:ws.drop i = opWd op :: r):opW ws ⟨i,0⟩ = some (opWd op) := by
  unfold opW
  rw [nx_cons h,nx_cons h]
  rcases opWd_kind op with e | e
  · rw [e,if_neg (by decide),if_pos rfl]
  · rw [e,if_pos rfl]
theorem opP_yes {ws r:List Wd} {op:List UInt8} {i:Nat} (h:ws.drop i = opWd op :: r):opP ws (levelP op) ⟨i,0⟩ = (some op,⟨i + 1,0⟩) := by
  unfold opP
  rw [op_at h]
  simp only
  rw [if_pos (show levelP (opWd op).s = levelP op from rfl)]
  rfl
theorem opP_no {ws rest:List Wd} {i L of:Nat} (h:ws.drop i = rest) (s:Stp L rest) (q:L ≤ of) (h7:of < 7):opP ws of ⟨i,0⟩ = (none,⟨i,0⟩) := by
  unfold opP
  cases e:rest with
  | nil =>
    rw [e] at h
    unfold opW
    rw [nx_nil h,nx_nil h]
  | cons w r =>
    rw [e] at h
    rcases s w r e with rfl | ⟨h1,h2,h3⟩ | ⟨rfl,h2⟩
    · have:opW ws ⟨i,0⟩ = some wRp := by
        unfold opW
        rw [nx_cons h,if_pos rfl]
      rw [this]
      simp only
      rw [if_neg]
      show ¬ 7 = of
      omega
    · rw [h3] at h
      rw [op_at h]
      simp only
      rw [if_neg]
      show ¬ levelP w.s = of
      omega
    · have:opW ws ⟨i,0⟩ = some wIs := by
        unfold opW
        rw [nx_cons h,nx_cons h,if_neg (by decide),if_pos rfl]
      rw [this]
      simp only
      rw [if_neg]
      show ¬ 7 = of
      omega
/-! ### To be read -/
def Rdx (ws:List Wd) (m:PM X) (x:X) (ts:List Wd) (L:Nat):Prop := ∀ i rest,ws.drop i = ts ++ rest → Stp L rest → m ⟨i,0⟩ = (x,⟨i + ts.length,0⟩)
def Lp (ws:List Wd) (f L:Nat) (x:X) (ts:List Wd):Prop := ∀ i rest,ws.drop i = ts ++ rest → Stp (L + 1) rest → ∃ n,ws.length + 1 ≤ n + ts.length ∧ binP ws f L ⟨i,0⟩ = loopP ws (binP ws (f - 1) (L + 1)) L n x ⟨i + ts.length,0⟩
def isLp (L:Nat):Prop := L = 0 ∨ L = 1 ∨ L = 4 ∨ L = 5
def Good (ws:List Wd) (f L:Nat) (x:X) (ts:List Wd):Prop := (isLp L → Lp ws f L x ts) ∧ Rdx ws (binP ws f L) x ts L
theorem lp_rd {ws:List Wd} {f L:Nat} {x:X} {ts:List Wd} (hL:isLp L) (h:Lp ws f L x ts):Rdx ws (binP ws f L) x ts L := fun i rest e s => by
  obtain ⟨n,hn,e2⟩ := h i rest e (s.mono (by omega))
  have hx := left_app e
  rw [e2]
  cases n with
  | zero => rw [loopP]
  | succ n =>
    rw [loopP,opP_no hx s (Nat.le_refl _) (by rcases hL with h | h | h | h <;> omega)]
theorem lp_of {ws:List Wd} {f L:Nat} {x:X} {ts:List Wd} (hL:isLp L) (h:Rdx ws (binP ws f (L + 1)) x ts (L + 1)):Lp ws (f + 1) L x ts := fun i rest e s => by
  refine ⟨ws.length + 1,by omega,?_⟩
  have e1 := h i rest e s
  rw [binP,if_neg (by rcases hL with h | h | h | h <;> omega),if_neg (by rcases hL with h | h | h | h <;> omega),e1]
  rfl
theorem cmp_no {ws:List Wd} {rb:PM X} {x:X} {ts:List Wd} (h:Rdx ws rb x ts 4):Rdx ws (cmpP ws rb) x ts 2 := fun i rest e s => by
  have hx := left_app e
  unfold cmpP
  rw [h i rest e (s.mono (by decide))]
  simp only
  rw [opP_no hx s (by decide) (by decide)]
  simp only
  have:haveP ws [73,83] ⟨i + ts.length,0⟩ = (false,⟨i + ts.length,0⟩) := by
    refine have_no (fun w r ew => ?_)
    rw [ew] at hx
    rcases s w r hx.symm with rfl | ⟨h1,h2,h3⟩ | ⟨rfl,h2⟩
    · exact .inr (by decide)
    · refine .inr (fun z => ?_)
      rw [z] at h2
      exact absurd h2 (by decide)
    · omega
  rw [this]
  simp only [if_true]
/-- The first word is another one. -/
def NotHd (ts:List Wd) (t:List UInt8):Prop := ∃ w r,ts = w :: r ∧ (w.k ≠ kdP t ∨ w.s ≠ t)
theorem NotHd.no {ws ts rest:List Wd} {t:List UInt8} {i:Nat} (h:NotHd ts t) (e:ws.drop i = ts ++ rest):haveP ws t ⟨i,0⟩ = (false,⟨i,0⟩) := by
  obtain ⟨w,r,rfl,hw⟩ := h
  refine have_no (fun w' r' e' => ?_)
  rw [e,List.cons_append] at e'
  injection e' with e1 e2
  subst e1
  exact hw
theorem two_of {ws:List Wd} {f:Nat} {x:X} {ts:List Wd} (hn:NotHd ts kNot) (h:Rdx ws (binP ws f 4) x ts 4):Rdx ws (binP ws (f + 1) 2) x ts 2 := fun i rest e s => by
  rw [binP,if_pos rfl,hn.no e]
  simp only [Bool.false_eq_true,if_false]
  exact cmp_no h i rest e s
/-- From a level on down. -/
theorem down {ws:List Wd} {x:X} {ts:List Wd} {B w:Nat} (hw:w ≤ 6) (hw3:w ≠ 3) (hn:4 ≤ w → NotHd ts kNot) (base:∀ f,B + 7 - w ≤ f → Good ws f w x ts):∀ (k L f:Nat),w = L + k → L ≠ 3 → B + 7 - L ≤ f → Good ws f L x ts
  | 0,L,f,hk,h3,hf => by
    obtain rfl:w = L := hk
    exact base f hf
  | k + 1,L,f,hk,h3,hf => by
    obtain ⟨f,rfl⟩:∃ g,f = g + 1 := ⟨f - 1,by omega⟩
    by_cases h2:L = 2
    · subst h2
      have hk2:1 ≤ k := by omega
      have g := down hw hw3 hn base (k - 1) 4 f (by omega) (by decide) (by omega)
      exact ⟨fun z => by rcases z with z | z | z | z <;> omega,two_of (hn (by omega)) g.2⟩
    · have g := down hw hw3 hn base k (L + 1) f (by omega) (by omega) (by omega)
      have hL:isLp L := by unfold isLp; omega
      have hl := lp_of hL g.2
      exact ⟨fun _ => hl,lp_rd hL hl⟩
end Go.Proofs.YtjpjeilfmjdhcaaDoor.Eb
