/- LexerNotes, the plain law: a remark between two texts. No condition. -/
import Derived.Test.YtjpjeilfmjdhcaaLnR
namespace Go.Proofs.Ytjpjeilfmjdhcaa.Lo
open Go Go.Proofs.Ytjpjeilfmjdhcaa.E
open Go.Proofs.Ytjpjeilfmjdhcaa.Ln
set_option maxRecDepth 100000
set_option linter.unusedVariables false
set_option linter.unusedSimpArgs false
theorem dc_app (a:UInt8) (t R:List UInt8):dc (a :: t ++ 10 :: R) = dc (a :: t) := by
  unfold dc
  rw [dec_eq,dec_eq]
  match t with
  | [] => simp [byteAt]
  | [b] => simp [byteAt]
  | [b,c] => simp [byteAt]
  | b :: c :: d :: u => simp [byteAt]
theorem dc_app' {t:List UInt8} (h:t ≠ []) (R:List UInt8):dc (t ++ 10 :: R) = dc t := by
  cases t with
  | nil => exact absurd rfl h
  | cons a t => exact dc_app a t R
theorem dc_not10 {a:UInt8} {t:List UInt8} (h:a ≠ 10):((dc (a :: t)).1:Int) ≠ 10 := by
  by_cases c:a.toNat < 128
  · rw [dc_ascii c]
    intro z
    have z':((a.toNat:Nat):Int) = 10 := z
    exact h (UInt8.toNat_inj.1 (by show a.toNat = 10; omega))
  · unfold dc
    rw [dec_eq]
    simp only [Nat.zero_add]
    have hb:byteAt (a :: t) 0 = a.toNat := by simp [byteAt]
    rw [if_neg (show ¬ byteAt (a :: t) 0 < 128 by rw [hb]; exact c)]
    have er:Utf8.runeError = 65533 := rfl
    split
    · split
      · rename_i q; simp only [ge_iff_le] at q; intro z; simp only at z; omega
      · rw [er]; decide
    · split
      · split
        · rename_i q; simp only [ge_iff_le,Bool.and_eq_true,decide_eq_true_eq] at q; intro z; simp only at z; omega
        · rw [er]; decide
      · split
        · split
          · rename_i q; simp only [ge_iff_le,Bool.and_eq_true,decide_eq_true_eq] at q; intro z; simp only at z; omega
          · rw [er]; decide
        · rw [er]; decide
theorem preP_app {p:List UInt8} (hp:10 ∉ p) (t R:List UInt8):preP (t ++ 10 :: R) p = preP t p := by
  unfold preP
  by_cases c:p.length ≤ t.length
  · rw [decide_eq_true c,decide_eq_true (by simp; omega),List.take_append_of_le_length c]
  · rw [decide_eq_false c,Bool.false_and]
    have:((t ++ 10 :: R).take p.length == p) = false := by
      cases e:((t ++ 10 :: R).take p.length == p) with
      | false => rfl
      | true =>
        have e:(t ++ 10 :: R).take p.length = p := by simpa using e
        have h1:((t ++ 10 :: R).take p.length)[t.length]? = some 10 := by
          rw [List.getElem?_take,if_pos (by omega),List.getElem?_append_right (Nat.le_refl _),Nat.sub_self]; rfl
        rw [e] at h1
        exact absurd (List.mem_of_getElem? h1) hp
    rw [this,Bool.and_false]
theorem runP_app {R:List UInt8}:∀ (m:Nat) (t:List UInt8) (k:Nat),t.length ≤ m → 1 ≤ k → runP (m + k) (t ++ 10 :: R) = runP m t := by
  have h0:∀ k,1 ≤ k → runP k (10 :: R) = 0 := fun k hk => by
    obtain ⟨k,rfl⟩:∃ j,k = j + 1 := ⟨k - 1,by omega⟩
    rw [runP,if_neg (by simp),dc_ascii (b := 10) (by decide)]
    rfl
  intro m
  induction m with
  | zero =>
    intro t k ht hk
    have:t = [] := List.eq_nil_of_length_eq_zero (by omega)
    subst this
    rw [List.nil_append,Nat.zero_add,h0 k hk]; rfl
  | succ m ih =>
    intro t k ht hk
    by_cases c:t = []
    · subst c
      rw [List.nil_append,h0 _ (by omega),runP,if_pos rfl]
    · have hw := dc_width t c
      rw [show m + 1 + k = (m + k) + 1 by omega,runP,runP,if_neg (by simp),if_neg c,dc_app' c,List.drop_append_of_le_length hw.2,ih (t.drop (dc t).2) k (by simp; omega) hk]
theorem runP_app' (t R:List UInt8):runP (t ++ 10 :: R).length (t ++ 10 :: R) = runP t.length t := by
  rw [List.length_append]; exact runP_app _ t _ (Nat.le_refl _) (by simp)
theorem qtP_app {R:List UInt8}:∀ (m:Nat) (b t:List UInt8) (p:List UInt8 × Nat) (k:Nat),qtP m b t = some p → qtP (m + k) b (t ++ 10 :: R) = some p
  | 0,b,t,p,k,h => by cases h
  | m + 1,b,[],p,k,h => by cases h
  | m + 1,b,c :: t,p,k,h => by
    rw [show m + 1 + k = (m + k) + 1 by omega,List.cons_append,qtP_cons]
    rw [qtP_cons] at h
    by_cases q:c = 39
    · rw [if_pos q] at h ⊢
      cases t with
      | nil => simpa using h
      | cons d u =>
        simp only [List.cons_append] at h ⊢
        by_cases q2:d = 39
        · rw [if_pos q2] at h ⊢
          cases e:qtP m (b ++ [c]) u with
          | none => rw [e] at h; cases h
          | some p' => rw [e] at h; rw [qtP_app m _ _ _ k e]; exact h
        · rw [if_neg q2] at h ⊢
          exact h
    · rw [if_neg q] at h ⊢
      cases e:qtP m (b ++ [c]) t with
      | none => rw [e] at h; cases h
      | some p' => rw [e] at h; rw [qtP_app m _ _ _ k e]; exact h
theorem sgP_app {t:List UInt8} (h:t ≠ []) (R:List UInt8):sgP (t ++ 10 :: R) = sgP t := by
  have e:(t ++ 10 :: R).headD 0 = t.headD 0 := by
    cases t with
    | nil => exact absurd rfl h
    | cons a t => rfl
  unfold sgP
  rw [preP_app (by decide),preP_app (by decide),preP_app (by decide),e]
theorem addP_ok {ok:Bool} {w:Wd} {ws:List Wd} {e:Int} (h:(addP ok w ws e).2 = 0):ok = true ∧ ws.length ≠ 600 ∧ addP ok w ws e = (ws ++ [w],e) := by
  unfold addP at h ⊢
  cases ok with
  | false => simp at h
  | true =>
    simp only [Bool.true_eq_false,if_false] at h ⊢
    by_cases c:ws.length = 600
    · rw [if_pos c] at h; simp at h
    · exact ⟨trivial,c,by rw [if_neg c]⟩
theorem wordP_app {r:Int} {t:List UInt8} {ws:List Wd} {e:Int} (R:List UInt8) (hne:t ≠ []) (h:(wordP r t ws e).2.2 = 0):wordP r (t ++ 10 :: R) ws e = wordP r t ws e ∧ (wordP r t ws e).1 ≤ t.length := by
  have hrl := runP_le t.length t
  have hsl := (sgP_le hne).1
  have hl:0 < t.length := List.length_pos_iff.2 hne
  unfold wordP at h ⊢
  by_cases c:r = 39
  · rw [if_pos c] at h
    rw [if_pos c,if_pos c]
    cases e3:qtP t.length [] (t.drop 1) with
    | none => rw [e3] at h; simp at h
    | some p =>
      have e4 := qtP_app (R := R) t.length [] (t.drop 1) p (10 :: R).length e3
      have := qtP_le _ _ _ _ e3
      simp only [List.length_drop] at this
      rw [List.length_append,List.drop_append_of_le_length (by omega),e4]
      exact ⟨rfl,by simp only; omega⟩
  · rw [if_neg c] at h
    rw [if_neg c,if_neg c]
    rw [runP_app',sgP_app hne,List.take_append_of_le_length hrl,List.take_append_of_le_length hsl]
    refine ⟨by first | rfl | trivial,?_⟩
    by_cases c1:letterP r = true
    · rw [if_pos c1]; exact hrl
    · rw [if_neg c1] at h ⊢
      by_cases c2:digitP r = true
      · rw [if_pos c2]; exact hrl
      · rw [if_neg c2] at h ⊢
        have := (addP_ok h).1
        simp only [decide_eq_true_eq] at this
        simp only; omega
theorem stepP_app {t:List UInt8} {sk:Nat} {nt:Bool} {ws:List Wd} (R:List UInt8) (hne:t ≠ []) (hsk:sk ≤ t.length) (h:(stepP t sk nt ws).2.2.2 = 0):stepP (t ++ 10 :: R) sk nt ws = stepP t sk nt ws ∧ (stepP t sk nt ws).1 ≤ t.length := by
  have hl:0 < t.length := List.length_pos_iff.2 hne
  unfold stepP at h ⊢
  rw [dc_app' hne,preP_app (by decide),preP_app (by decide)]
  by_cases c0:nt = true
  · rw [if_pos c0,if_pos c0]
    refine ⟨rfl,?_⟩
    split
    · exact hsk
    · exact hl
  · rw [if_neg c0] at h ⊢
    rw [if_neg c0]
    by_cases c1:0 < sk
    · rw [if_pos c1,if_pos c1]; exact ⟨rfl,hsk⟩
    · rw [if_neg c1] at h ⊢
      rw [if_neg c1]
      by_cases c2:blankP ((dc t).1:Int) = true
      · rw [if_pos c2,if_pos c2]; exact ⟨rfl,Nat.zero_le _⟩
      · rw [if_neg c2] at h ⊢
        rw [if_neg c2]
        by_cases c3:preP t [45,45] = true
        · rw [if_pos c3,if_pos c3]; exact ⟨rfl,hl⟩
        · rw [if_neg c3] at h ⊢
          rw [if_neg c3]
          by_cases c4:(((dc t).1:Int) == 65533 && !preP t [239,191,189]) = true
          · rw [if_pos c4] at h; simp at h
          · rw [if_neg c4] at h ⊢
            rw [if_neg c4]
            obtain ⟨e1,e2⟩ := wordP_app (ws := ws) (e := 0) R hne h
            rw [e1]
            exact ⟨rfl,e2⟩
theorem scan_err {e:Int} (h:e ≠ 0):∀ (m:Nat) (t:List UInt8) (sk:Nat) (nt:Bool) (ws:List Wd),(scan m t sk nt ws e).1 = none
  | 0,t,sk,nt,ws => by rw [scan,finP,if_neg h]
  | m + 1,t,sk,nt,ws => by
    rw [scan]
    split
    · rw [finP,if_neg h]
    · rfl
theorem scan_fuel:∀ (m m':Nat) (t:List UInt8) (sk:Nat) (nt:Bool) (ws:List Wd) (e:Int),t.length ≤ m → t.length ≤ m' → scan m t sk nt ws e = scan m' t sk nt ws e
  | 0,0,t,sk,nt,ws,e,h,h' => rfl
  | 0,m' + 1,t,sk,nt,ws,e,h,h' => by
    have:t = [] := List.eq_nil_of_length_eq_zero (by omega)
    subst this
    rw [scan,scan,if_pos rfl]
  | m + 1,0,t,sk,nt,ws,e,h,h' => by
    have:t = [] := List.eq_nil_of_length_eq_zero (by omega)
    subst this
    rw [scan,scan,if_pos rfl]
  | m + 1,m' + 1,t,sk,nt,ws,e,h,h' => by
    rw [scan,scan]
    by_cases c:t = []
    · rw [if_pos c,if_pos c]
    · rw [if_neg c,if_neg c]
      have hw := dc_width t c
      by_cases z:e = 0
      · rw [if_neg (fun x => x z),if_neg (fun x => x z)]
        exact scan_fuel m m' _ _ _ _ _ (by simp; omega) (by simp; omega)
      · rw [if_pos z,if_pos z]
theorem scanA:∀ (m:Nat) (t:List UInt8) (sk:Nat) (nt:Bool) (ws:List Wd) (e:Int) (x:List Wd),t.length ≤ m → sk ≤ t.length → scan m t sk nt ws e = (some x,0) →
    ∃ nt',∀ (R:List UInt8) (k:Nat),(10 :: R).length ≤ k → scan (m + k) (t ++ 10 :: R) sk nt ws e = scan k (10 :: R) 0 nt' x 0 := by
  have fin:∀ {ws:List Wd} {e:Int} {x:List Wd},finP ws e = (some x,0) → e = 0 ∧ ws = x := by
    intro ws e x h
    unfold finP at h
    by_cases z:e = 0
    · rw [if_pos z] at h
      injection h with h1 h2
      injection h1 with h1
      exact ⟨z,h1⟩
    · rw [if_neg z] at h; cases h
  intro m
  induction m with
  | zero =>
    intro t sk nt ws e x ht hs h
    have:t = [] := List.eq_nil_of_length_eq_zero (by omega)
    subst this
    obtain ⟨rfl,rfl⟩ := fin h
    have:sk = 0 := by simpa using hs
    subst this
    exact ⟨nt,fun R k hk => by rw [Nat.zero_add,List.nil_append]⟩
  | succ m ih =>
    intro t sk nt ws e x ht hs h
    by_cases c:t = []
    · subst c
      rw [scan,if_pos rfl] at h
      obtain ⟨rfl,rfl⟩ := fin h
      have:sk = 0 := by simpa using hs
      subst this
      exact ⟨nt,fun R k hk => by rw [List.nil_append]; exact scan_fuel _ _ _ _ _ _ _ (by omega) hk⟩
    · rw [scan,if_neg c] at h
      have hw := dc_width t c
      by_cases z:e = 0
      · rw [if_neg (fun y => y z)] at h
        have h0:(stepP t sk nt ws).2.2.2 = 0 := by
          by_cases q:(stepP t sk nt ws).2.2.2 = 0
          · exact q
          · have := scan_err q m (t.drop (dc t).2) ((stepP t sk nt ws).1 - (dc t).2) (stepP t sk nt ws).2.1 (stepP t sk nt ws).2.2.1
            rw [h] at this; cases this
        have hst := fun R => stepP_app (ws := ws) R c hs h0
        obtain ⟨nt',hn⟩ := ih _ _ _ _ _ _ (by simp; omega) (by have := (hst []).2; simp; omega) h
        refine ⟨nt',fun R k hk => ?_⟩
        rw [show m + 1 + k = (m + k) + 1 by omega,scan,if_neg (by simp),if_neg (fun y => y z),dc_app' c,(hst R).1,List.drop_append_of_le_length hw.2]
        exact hn R k hk
      · rw [if_pos z] at h; cases h
theorem scanN {ws:List Wd} {R:List UInt8}:∀ (m:Nat) (note:List UInt8) (k:Nat),note.length ≤ m → 10 ∉ note → (10 :: R).length ≤ k → scan (m + k) (note ++ 10 :: R) 0 true ws 0 = scan k (10 :: R) 0 true ws 0 := by
  intro m
  induction m with
  | zero =>
    intro note k hm hn hk
    have:note = [] := List.eq_nil_of_length_eq_zero (by omega)
    subst this
    rw [Nat.zero_add,List.nil_append]
  | succ m ih =>
    intro note k hm hn hk
    cases hc:note with
    | nil => rw [List.nil_append]; exact scan_fuel _ _ _ _ _ _ _ (by omega) hk
    | cons a t =>
      have c:note ≠ [] := by rw [hc]; simp
      have hw := dc_width note c
      have ha:a ≠ 10 := fun z => hn (by rw [hc,z]; simp)
      have e:stepP (note ++ 10 :: R) 0 true ws = (1,true,(ws,0)) := by
        unfold stepP
        rw [dc_app' c,if_pos rfl,if_neg (by rw [hc]; exact dc_not10 ha)]
      rw [← hc,show m + 1 + k = (m + k) + 1 by omega,scan,if_neg (by simp),if_neg (fun y => y rfl),e,dc_app' c,List.drop_append_of_le_length hw.2]
      simp only [show 1 - (dc note).2 = 0 by omega]
      exact ih _ k (by simp; omega) (fun z => hn (List.mem_of_mem_drop z)) hk
theorem step_ascii {b:UInt8} {t:List UInt8} {m sk:Nat} {nt:Bool} {ws:List Wd} (hb:b.toNat < 128):scan (m + 1) (b :: t) sk nt ws 0 = scan m t ((stepP (b :: t) sk nt ws).1 - 1) (stepP (b :: t) sk nt ws).2.1 (stepP (b :: t) sk nt ws).2.2.1 (stepP (b :: t) sk nt ws).2.2.2 := by
  rw [scan,if_neg (by simp),if_neg (fun y => y rfl),dc_ascii hb]
  rfl
theorem blank_step {b:UInt8} {t:List UInt8} {m:Nat} {ws:List Wd} (hb:b = 10 ∨ b = 9 ∨ b = 32):scan (m + 1) (b :: t) 0 false ws 0 = scan m t 0 false ws 0 := by
  have h128:b.toNat < 128 := by rcases hb with rfl | rfl | rfl <;> decide
  have e:stepP (b :: t) 0 false ws = (0,false,(ws,0)) := by
    unfold stepP
    rw [dc_ascii h128,if_neg (by decide),if_neg (by decide),if_pos (by rcases hb with rfl | rfl | rfl <;> decide)]
  rw [step_ascii h128,e]; rfl
/-! ### Words ahead -/
end Go.Proofs.Ytjpjeilfmjdhcaa.Lo
