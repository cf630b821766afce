/- The lexer: signs; a word more; texts in quotes; a word. No condition. -/
import Derived.Test.YtjpjeilfmjdhcaaDoorLnP
namespace Go.Proofs.YtjpjeilfmjdhcaaDoor.Ln
open Go Go.Proofs.YtjpjeilfmjdhcaaDoor.E
set_option maxRecDepth 100000
set_option linter.unusedVariables false
set_option linter.unusedSimpArgs false
/-! ### Signs -/
def sgP (s:List UInt8):Nat := if preP s [60,62] || preP s [60,61] || preP s [62,61] then 2 else if 0 ≤ Lib.indexByte [40,41,44,46,59,42,43,45,61,60,62] (s.headD 0) then 1 else 0
theorem sgP_le {s:List UInt8} (h:s ≠ []):sgP s ≤ s.length ∧ sgP s ≤ 2 := by
  have hl:0 < s.length := List.length_pos_iff.2 h
  unfold sgP
  split
  · rename_i q
    have:2 ≤ s.length := by
      by_cases z:2 ≤ s.length
      · exact z
      · have e:∀ a b,preP s [a,b] = false := fun a b => by
          unfold preP; rw [decide_eq_false (by simpa using z),Bool.false_and]
        simp [e] at q
    exact ⟨this,Nat.le_refl _⟩
  · split
    · exact ⟨hl,by decide⟩
    · exact ⟨Nat.zero_le _,by decide⟩
theorem cl105 {lf:Nat} {h:List Ob} {id:Nat} {s t:List UInt8} (q:Sc h id (.str s)):F52 lf t (.ptr id 0 0) h = some (.bool (preP s t),h) := by
  simp only [F52,q.load1 rfl,bind1_some,castStr_str,pre56,bind2_some,castBool_bool]
theorem idxB_eq {h:List Ob} {l:List UInt8} {b:UInt8}:er (.idxB (.c (.str l)) (.c (.int .u8 b.toNat))) h = some (.int .i64 (Lib.indexByte l b)) := by
  have e:((b.toNat:Int).toNat).toUInt8 = b := by
    rw [Int.toNat_natCast]; exact UInt8.ofNat_toNat
  simp only [er,ev,evOq,x_idxB,getC,evBytes,e]
  rfl
theorem signed85 {lf:Nat} {h:List Ob} {s:List UInt8} (hne:s ≠ []) (hf:4 < lf):To2 (F40 lf s h) fun v h' => v = .int .i64 ((sgP s:Nat):Int) ∧ Kp h h' [] := by
  simp only [F40]
  refine To2.bind2 (scbox_to (v := .str s) rfl) ?_
  rintro p h1 ⟨rfl,c1,k1⟩
  refine To2.bind2 (bslice_to (ps := [(0,.str [60,62]),(1,.str [60,61]),(2,.str [62,61])]) (es := [.str [60,62],.str [60,61],.str [62,61]]) (by decide) rfl rfl rfl) ?_
  rintro x h2 ⟨rfl,-,sx,-,k2,-⟩
  have c2 := c1.kp k2
  obtain ⟨a0,p0,q0⟩ := sx.at1 (k := 0) (e := .str [60,62]) (by omega) rfl rfl
  obtain ⟨a1,p1,q1⟩ := sx.at1 (k := 1) (e := .str [60,61]) (by omega) rfl rfl
  obtain ⟨a2,p2,q2⟩ := sx.at1 (k := 2) (e := .str [62,61]) (by omega) rfl rfl
  have hcv:∀ t,cv40 lf (.fn 52 [.ptr h.length 0 0]) [.str t] h2 = F52 lf t (.ptr h.length 0 0) h2 := fun t => rfl
  have kk := k1.tr k2
  have hlen:(([.str [60,62],.str [60,61],.str [62,61]]:List V).length:Int) = 3 := rfl
  obtain ⟨g,hg⟩:∃ g,lf = g + 4 := ⟨lf - 4,by omega⟩
  have d0:decide ((0:Int) < 3) = true := rfl
  have d1:decide ((1:Int) < 3) = true := rfl
  have d2:decide ((2:Int) < 3) = true := rfl
  have d3:decide ((3:Int) < 3) = false := rfl
  have w0:IntKind.i64.wrap (0 + 1) = 1 := by decide
  have w1:IntKind.i64.wrap (1 + 1) = 2 := by decide
  have w2:IntKind.i64.wrap (2 + 1) = 3 := by decide
  have hL:∃ k:Int,F51 lf (cv40 lf) (.hsl h1.length 0 3) (.fn 52 [.ptr h.length 0 0]) h2 = some (.int .i64 k,h2) ∧ decide (k ≥ 0) = (preP s [60,62] || preP s [60,61] || preP s [62,61]) := by
    have eL:L51_0 lf (cv40 lf) lf = B51_0 lf (cv40 lf) (B51_0 lf (cv40 lf) (B51_0 lf (cv40 lf) (B51_0 lf (cv40 lf) (L51_0 lf (cv40 lf) g)))) := by
      rw [show L51_0 lf (cv40 lf) lf = L51_0 lf (cv40 lf) (g + 4) by rw [← hg]]; rfl
    simp only [F51,er_lenL sx,hlen,bind1_some,castInt_int,eL]
    unfold B51_0
    simp only [d0,d1,d2,d3,cB_true,cB_false,p0,p1,p2,q0,q1,q2,bind1_some,castStr_str,hcv,cl105 c2,bind2_some,castBool_bool,w0,w1,w2]
    cases e0:preP s [60,62] <;> cases e1:preP s [60,61] <;> cases e2:preP s [62,61] <;> refine ⟨_,rfl,?_⟩ <;> decide
  obtain ⟨k,eF,ek⟩ := hL
  simp only [eF,bind2_some,castInt_int,ek]
  unfold sgP
  cases e:(preP s [60,62] || preP s [60,61] || preP s [62,61]) with
  | true =>
    simp only [cB_true,if_true]
    exact To2.some ⟨rfl,kk⟩
  | false =>
    cases s with
    | nil => exact absurd rfl hne
    | cons b t =>
      have e2:er (.idxS (.c (.str (b :: t))) (.c (.int .i64 (0:Int)))) h2 = some (.int .u8 b.toNat) := er_idxS (k := 0) rfl
      simp only [cB_false,c2.load1 rfl,bind1_some,castStr_str,e2,castInt_int,F53,F64,idxB_eq,bind2_some,Bool.false_eq_true,if_false]
      by_cases q:0 ≤ Lib.indexByte [40,41,44,46,59,42,43,45,61,60,62] ((b :: t).headD 0)
      · have q':0 ≤ Lib.indexByte [40,41,44,46,59,42,43,45,61,60,62] b := q
        rw [decide_eq_true (by omega),cB_true,if_pos q]
        exact To2.some ⟨rfl,kk⟩
      · have q':¬ 0 ≤ Lib.indexByte [40,41,44,46,59,42,43,45,61,60,62] b := q
        rw [decide_eq_false (by omega),cB_false,if_neg q]
        exact To2.some ⟨rfl,kk⟩
/-! ### A word more -/
structure Wd where
  k:Int
  s:List UInt8
  n:Int
deriving DecidableEq
abbrev cW (w:Wd):List V := [.int .i64 w.k,.str w.s,.int .i64 w.n]
def rowsW (ws:List Wd):List V := ws.map fun w => .agg (cW w)
theorem rowsW_len (ws:List Wd):(rowsW ws).length = ws.length := by simp [rowsW]
def addP (ok:Bool) (w:Wd) (ws:List Wd) (e:Int):List Wd × Int := if ok = false then (ws,3) else if ws.length = 600 then (ws,5) else (ws ++ [w],e)
/-- What a scanner holds. -/
structure Scn (h:List Ob) (id:Nat) (s:List UInt8) (wv:V) (ws:List Wd) (e:Int):Prop where
  st:St h id [.str s,wv,.int .i64 e]
  sl:Sl 3 h wv (rowsW ws)
  ap:Ap wv
  ne:id ∉ idsOf wv
theorem Scn.kp {h h':List Ob} {id:Nat} {s:List UInt8} {wv:V} {ws:List Wd} {e:Int} (q:Scn h id s wv ws e) (k:Kp h h' []):Scn h' id s wv ws e := ⟨q.st.kp k,q.sl.kp k,q.ap,q.ne⟩
theorem Scn.keep {h h':List Ob} {id:Nat} {s:List UInt8} {wv:V} {ws:List Wd} {e:Int} {A:List Nat} (q:Scn h id s wv ws e) (k:Kp h h' A) (h1:id ∉ A) (h2:∀ j,j ∈ idsOf wv → j ∉ A):Scn h' id s wv ws e := ⟨q.st.keep k h1,q.sl.keep k h2,q.ap,q.ne⟩
theorem Ap.sc {v:V} (a:Ap v):v.cells = [v] ∧ v.scalar = true := by
  rcases a with rfl | rfl | ⟨a,b,c,rfl⟩ <;> exact ⟨rfl,rfl⟩
theorem Scn.err {h:List Ob} {id:Nat} {s:List UInt8} {wv:V} {ws:List Wd} {e:Int} (q:Scn h id s wv ws e) (x:Int):To2 (ev (.store 1 (.c (.ptr id 0 2)) (.c (.int .i64 x))) h) fun _ h' => Scn h' id s wv ws x ∧ Kp h h' [id] := by
  refine (q.st.store1 (j := 2) (x := .int .i64 x) (by simp) ⟨rfl,rfl⟩).mono ?_
  rintro u h1 ⟨st,k⟩
  exact ⟨⟨st,q.sl.keep k (fun j hj z => q.ne (by simp at z; exact z ▸ hj)),q.ap,q.ne⟩,k⟩
/-- What a call does to a scanner. -/
abbrev ScnTo (h:List Ob) (id:Nat) (s:List UInt8) (wv:V) (r:List Wd × Int) (h':List Ob):Prop := ∃ wv',Scn h' id s wv' r.1 r.2 ∧ Kp h h' (id :: idsOf wv) ∧ ∀ j,j ∈ idsOf wv' → j ∈ idsOf wv ∨ h.length ≤ j
theorem add82 {lf:Nat} {h:List Ob} {id:Nat} {s:List UInt8} {wv:V} {ws:List Wd} {e:Int} {ok:Bool} (w:Wd) (q:Scn h id s wv ws e) (hl:ws.length ≤ 600) :
    To2 (F36 lf (.ptr id 0 0) w.k w.s w.n ok h) fun v h' => v = .tup [] ∧ ScnTo h id s wv (addP ok w ws e) h' := by
  simp only [F36]
  refine To2.bind2 (box_to (cs := cW w) rfl) ?_
  rintro p h1 ⟨rfl,b1,k1⟩
  have q1 := q.kp k1
  have nk := q1.st.nilck 0 0
  have f1 := q1.st.faddr 1 0 0
  have f2 := q1.st.faddr 2 0 0
  have l1:er (.load1 (.c (.ptr id 0 1))) h1 = some wv := q1.st.load1 rfl
  simp only [Nat.zero_add] at f1 f2
  cases ok with
  | false =>
    simp only [Bool.not_false,cB_true,nk,f2,bind1_some]
    refine To2.bind2 (q1.err 3) ?_
    rintro u h2 ⟨q2,k2⟩
    have k12:Kp h h2 (id :: idsOf wv) := k1.trans k2 (fun j hj => by cases hj) (fun j hj _ => by simp at hj; simp [hj])
    exact To2.some ⟨rfl,wv,by simpa [addP] using q2,k12,fun j hj => .inl hj⟩
  | true =>
    simp only [Bool.not_true,cB_false,nk,f1,l1,bind1_some,er_lenL q1.sl,rowsW_len,castInt_int]
    by_cases z:ws.length = 600
    · have e1:((ws.length:Int) == 600) = true := by simp [z]
      simp only [e1,cB_true,f2,bind1_some]
      refine To2.bind2 (q1.err 5) ?_
      rintro u h2 ⟨q2,k2⟩
      have k12:Kp h h2 (id :: idsOf wv) := k1.trans k2 (fun j hj => by cases hj) (fun j hj _ => by simp at hj; simp [hj])
      exact To2.some ⟨rfl,wv,by simpa [addP,z] using q2,k12,fun j hj => .inl hj⟩
    · have e1:((ws.length:Int) == 600) = false := by
        have:(ws.length:Int) ≠ 600 := by omega
        simpa using this
      have ll:er (.loadN 3 (.c (.ptr h.length 0 0))) h1 = some (.agg (cW w)) := b1.loadN' rfl
      simp only [e1,cB_false,ll,bind1_some,castAgg_agg,castCons_cons,castInt_int,castStr_str,castNil_nil]
      refine To2.bind2 (bslice_to (ps := [(0,.agg (cW w))]) (es := rowsW [w]) (by decide) rfl rfl rfl) ?_
      rintro x h2 ⟨-,-,sx,ax,k2,fx⟩
      have q2 := q1.kp k2
      have nk2 := q2.st.nilck 0 0
      have f12 := q2.st.faddr 1 0 0
      have l12:er (.load1 (.c (.ptr id 0 1))) h2 = some wv := q2.st.load1 rfl
      simp only [Nat.zero_add] at f12
      rw [reP_pos _ l12,reP_pos _ f12,reP_pos _ nk2]
      have hr:roomMax = 140737488355328 := rfl
      refine To2.bind2 (app_to (bytes := 32) q2.sl q2.ap sx.c (by rw [rowsW_len,rowsW_len,hr]; simp; omega)) ?_
      rintro y h3 ⟨sy,ay,k3,fy⟩
      have st3 := q2.st.keep k3 q2.ne
      have nk3 := st3.nilck 0 0
      have f13 := st3.faddr 1 0 0
      simp only [Nat.zero_add] at f13
      simp only [nk3,f13,bind1_some]
      refine To2.bind2 (st3.store1 (j := 1) (x := y) (by simp) (Ap.sc ay)) ?_
      rintro u h4 ⟨st4,k4⟩
      have hlt := q.st.lt
      have l1' := k1.len
      have l2' := k2.len
      have hney:id ∉ idsOf y := fun hy => (fy id hy).elim q.ne (fun z => by omega)
      have sy4 := sy.keep k4 (fun j hj z => hney (by simp at z; exact z ▸ hj))
      have erow:rowsW ws ++ rowsW [w] = rowsW (ws ++ [w]) := by simp [rowsW]
      rw [erow] at sy4
      have k13:Kp h h3 (idsOf wv) := (k1.tr k2).trans k3 (fun j hj => by cases hj) (fun j hj _ => hj)
      have k14:Kp h h4 (id :: idsOf wv) := k13.trans k4 (fun j hj _ => List.mem_cons_of_mem _ hj) (fun j hj _ => by simp at hj; simp [hj])
      refine To2.some ⟨rfl,y,?_,k14,fun j hj => (fy j hj).elim .inl (fun z => .inr (by omega))⟩
      have ea:addP true w ws e = (ws ++ [w],e) := by simp [addP,z]
      rw [ea]
      exact ⟨st4,sy4,ay,hney⟩
/-! ### Texts in quotes -/
def u8i (b:List UInt8):List Int := b.map fun c => ((c.toNat:Nat):Int)
theorem u8i_len (b:List UInt8):(u8i b).length = b.length := by simp [u8i]
theorem by8_u8i:∀ b:List UInt8,by8 (u8i b) = b
  | [] => rfl
  | c :: b => by
    have := by8_u8i b
    simp only [by8,u8i,List.map_cons,List.map_map] at this ⊢
    rw [this,Int.toNat_natCast,UInt8.ofNat_toNat]
/-- What stands in quotes, ahead of the quote that ends it; how many bytes go. -/
def qtP:Nat → List UInt8 → List UInt8 → Option (List UInt8 × Nat)
  | 0,_,_ => none
  | _ + 1,_,[] => none
  | m + 1,b,c :: t => if c = 39 then (match t with
      | d :: u => if d = 39 then (qtP m (b ++ [c]) u).map fun p => (p.1,p.2 + 2) else some (b,1)
      | [] => some (b,1)) else (qtP m (b ++ [c]) t).map fun p => (p.1,p.2 + 1)
theorem qtP_cons (m:Nat) (b:List UInt8) (c:UInt8) (t:List UInt8):qtP (m + 1) b (c :: t) = if c = 39 then (match t with
      | d :: u => if d = 39 then (qtP m (b ++ [c]) u).map fun p => (p.1,p.2 + 2) else some (b,1)
      | [] => some (b,1)) else (qtP m (b ++ [c]) t).map fun p => (p.1,p.2 + 1) := by
  cases t <;> rfl
theorem byteThen {h0 h:List Ob} {b:List UInt8} {bV:V} {K:V → List Ob → SubR} {Q:EX → List V → List Ob → Prop} (n:New h0 (bv (u8i b)) bV h) (c:UInt8) (hl:b.length ≤ 100000) (hK:∀ v h',New h0 (bv (u8i (b ++ [c]))) v h' → Kp h h' (idsOf bV) → To3 (K v h') Q) :
    To3 (bind2 (ev (.bslice 1 (.int .u8 0) 1 [(0,(.c (.int .u8 ((c.toNat:Nat):Int))))]) h) fun x32 h_ => bind2 (ev (.app 1 1 (.c bV) (.c x32)) h_) K) Q := by
  refine To3.bind2 (bslice_to (ps := [(0,.int .u8 ((c.toNat:Nat):Int))]) (es := bv (u8i [c])) (by decide) rfl rfl rfl) ?_
  rintro x h1 ⟨-,-,sx,-,k1,-⟩
  have hr:roomMax = 140737488355328 := rfl
  have n1 := n.keep k1
  refine To3.bind2 (app_to (bytes := 1) n1.1 n1.2.1 sx.c (by rw [bv_length,bv_length,u8i_len,u8i_len,hr]; simp; omega)) ?_
  rintro v h2 ⟨s2,a2,k2,f2⟩
  have n2:New h0 (bv (u8i b) ++ bv (u8i [c])) v h2 := n1.beh ⟨s2,a2,k2,f2⟩
  have e:bv (u8i b) ++ bv (u8i [c]) = bv (u8i (b ++ [c])) := by simp [bv,u8i]
  rw [e] at n2
  exact hK v h2 n2 (k1.trans k2 (fun j hj => by cases hj) (fun j hj _ => hj))
theorem drop_two {s:List UInt8} {i:Nat} {c:UInt8} {t:List UInt8} (h:s.drop i = c :: t):s.drop (i + 1) = t ∧ s[i]? = some c ∧ i < s.length := by
  have hl:i < s.length := by
    have := congrArg List.length h
    simp at this; omega
  rw [List.drop_eq_getElem_cons hl] at h
  injection h with h1 h2
  exact ⟨h2,by rw [List.getElem?_eq_getElem hl,h1],hl⟩
theorem pre_qq (c:UInt8) (t:List UInt8):preP (c :: t) [39,39] = match t with
    | d :: _ => (c == 39) && (d == 39)
    | [] => false := by
  cases t with
  | nil => rfl
  | cons d u =>
    unfold preP
    rw [decide_eq_true (by simp),Bool.true_and]
    simp only [List.length_cons,List.length_nil,List.take_succ_cons,List.take_zero]
    by_cases h1:c = 39 <;> by_cases h2:d = 39 <;> simp [h1,h2]
theorem quotL (lf:Nat) {h0:List Ob} {id:Nat} {s0 s:List UInt8} {wv:V} {ws:List Wd} {e:Int} (hs:s.length ≤ 4000) (hws:ws.length ≤ 600):∀ (m i f:Nat) (h:List Ob) (b:List UInt8) (bV:V),(s.drop i).length ≤ m → m < f → i ≤ s.length → b.length ≤ i → New h0 (bv (u8i b)) bV h → Scn h0 id s0 wv ws e → Scn h id s0 wv ws e → (∀ j,j ∈ id :: idsOf wv → j < h0.length) →
    To3 (L33_0 lf f (.ptr id 0 0) s bV i h) fun x vs h' => match qtP m b (s.drop i) with
      | some (b',n) => x = .ret ∧ vs = [.int .i64 ((i + n:Nat):Int)] ∧ ScnTo h0 id s0 wv (addP (decide (b'.length ≤ 100)) ⟨3,b',0⟩ ws e) h'
      | none => x = .exit 0 ∧ vs = [] ∧ Kp h0 h' [] := by
  intro m
  induction m with
  | zero =>
    intro i f h b bV hm hf hi hb n q0 q hlt
    obtain ⟨f,rfl⟩:∃ g,f = g + 1 := ⟨f - 1,by omega⟩
    simp only [List.length_drop] at hm
    have hd:decide ((i:Int) < (s.length:Int)) = false := decide_eq_false (by omega)
    simp only [L33_0,B33_0,hd,cB_false]
    exact To3.some ⟨rfl,rfl,n.2.2.1⟩
  | succ m ih =>
    intro i f h b bV hm hf hi hb n q0 q hlt
    obtain ⟨f,rfl⟩:∃ g,f = g + 1 := ⟨f - 1,by omega⟩
    simp only [List.length_drop] at hm
    cases hd0:s.drop i with
    | nil =>
      have hge:s.length ≤ i := by
        have := congrArg List.length hd0
        simp at this; omega
      have hd:decide ((i:Int) < (s.length:Int)) = false := decide_eq_false (by omega)
      simp only [L33_0,B33_0,hd,cB_false]
      exact To3.some ⟨rfl,rfl,n.2.2.1⟩
    | cons c t =>
      obtain ⟨ht,hc,hlti⟩ := drop_two hd0
      have hd:decide ((i:Int) < (s.length:Int)) = true := decide_eq_true (by omega)
      have hfresh:∀ j,j ∈ idsOf bV → h0.length ≤ j := n.2.2.2
      have hnb:∀ {h2:List Ob},Kp h h2 (idsOf bV) → Scn h2 id s0 wv ws e := fun {h2} k => q.keep k (fun z => by have := hfresh _ z; have := hlt id (by simp); omega) (fun j hj z => by have := hfresh _ z; have := hlt j (by simp [hj]); omega)
      have w1:IntKind.i64.wrap ((i:Int) + 1) = ((i + 1:Nat):Int) := by rw [wrap_i64 (by omega) (by omega)]; omega
      have w2:IntKind.i64.wrap (((i + 1:Nat):Int) + 1) = ((i + 2:Nat):Int) := by rw [wrap_i64 (by omega) (by omega)]; omega
      simp only [L33_0,B33_0,hd,cB_true,er_idxS hc,bind1_some,castInt_int,w1,w2]
      rw [qtP_cons]
      by_cases hq:c = 39
      · have e1:(((c.toNat:Nat):Int) != 39) = false := by subst hq; rfl
        simp only [e1,cB_false,er_slcS_from (Nat.le_of_lt hlti),bind1_some,castStr_str,pre56,bind2_some,castBool_bool,hd0,pre_qq,if_pos hq]
        have fin:To3 (bind1 (er (.toStr (.c bV)) h) fun v3 =>
castStr v3 fun x15 =>
bind1 (er (.build [(.int .i64 0),(.str []),(.int .i64 0)] [(0,(1,(.c (.int .i64 (3))))),(1,(1,(.c (.str x15))))]) h) fun v4 =>
castAgg v4 fun l =>
castCons l fun c l1 =>
castInt .i64 c fun x16_0 =>
castCons l1 fun c1 l2 =>
castStr c1 fun x16_1 =>
castCons l2 fun c2 l3 =>
castInt .i64 c2 fun x16_2 =>
castNil l3 (
bind1 (er (.lenL (.c bV)) h) fun v5 =>
castInt .i64 v5 fun x18 =>
bind2 (F36 lf (.ptr id 0 0) x16_0 x16_1 x16_2 (decide (x18 ≤ (100))) h) fun x20 h_1 =>
some (EX.ret,[V.int .i64 ((i + 1:Nat):Int)],h_1))) fun x vs h' => x = .ret ∧ vs = [.int .i64 ((i + 1:Nat):Int)] ∧ ScnTo h0 id s0 wv (addP (decide (b.length ≤ 100)) ⟨3,b,0⟩ ws e) h' := by
          have eb:er (.build [(.int .i64 0),(.str []),(.int .i64 0)] [(0,(1,(.c (.int .i64 (3))))),(1,(1,(.c (.str b))))]) h = some (.agg [.int .i64 3,.str b,.int .i64 0]) := rfl
          have e100:decide ((((bv (u8i b)).length:Nat):Int) ≤ 100) = decide (b.length ≤ 100) := decide_eq_decide.2 (by rw [bv_length,u8i_len]; omega)
          simp only [er_toStr n.1,by8_u8i,bind1_some,castStr_str,eb,castAgg_agg,castCons_cons,castInt_int,castNil_nil,er_lenL n.1,e100]
          refine To3.bind2 (add82 ⟨3,b,0⟩ q hws) ?_
          rintro u h1 ⟨-,wv',q1,k1,f1⟩
          have hl0 := n.2.2.1.len
          exact To3.some ⟨rfl,rfl,wv',q1,n.2.2.1.trans k1 (fun j hj => by cases hj) (fun j hj _ => hj),fun j hj => (f1 j hj).elim .inl (fun z => .inr (by omega))⟩
        cases t with
        | nil =>
          simp only [cB_false]
          exact fin
        | cons d u =>
          by_cases hq2:d = 39
          · obtain ⟨hu,hc2,hlt2⟩ := drop_two ht
            have e2:((c == 39) && (d == 39)) = true := by simp [hq,hq2]
            simp only [e2,cB_true,if_pos hq2]
            refine byteThen n c (by omega) ?_
            intro v h1 n1 k1
            refine (ih (i + 2) f h1 (b ++ [c]) v (by simp only [List.length_drop]; omega) (by omega) (by omega) (by simp; omega) n1 q0 (hnb k1) hlt).mono ?_
            rintro x vs h2 r
            rw [show i + 2 = i + 1 + 1 from rfl,hu] at r
            cases e3:qtP m (b ++ [c]) u with
            | none => rw [e3] at r; exact r
            | some p =>
              rw [e3] at r
              obtain ⟨r1,r2,r3⟩ := r
              refine ⟨r1,?_,r3⟩
              rw [r2,show i + (p.2 + 2) = i + 1 + 1 + p.2 by omega]
          · have e2:((c == 39) && (d == 39)) = false := by simp [hq2]
            simp only [e2,cB_false,if_neg hq2]
            exact fin
      · have e1:(((c.toNat:Nat):Int) != 39) = true := by
          have:((c.toNat:Nat):Int) ≠ 39 := fun z => hq (UInt8.toNat_inj.1 (by show c.toNat = 39; omega))
          simpa using this
        simp only [e1,cB_true,if_neg hq]
        refine byteThen n c (by omega) ?_
        intro v h1 n1 k1
        refine (ih (i + 1) f h1 (b ++ [c]) v (by simp only [List.length_drop]; omega) (by omega) (by omega) (by simp; omega) n1 q0 (hnb k1) hlt).mono ?_
        rintro x vs h2 r
        rw [ht] at r
        cases e3:qtP m (b ++ [c]) t with
        | none => rw [e3] at r; exact r
        | some p =>
          rw [e3] at r
          obtain ⟨r1,r2,r3⟩ := r
          refine ⟨r1,?_,r3⟩
          rw [r2,show i + (p.2 + 1) = i + 1 + p.2 by omega]
theorem qtP_le:∀ (m:Nat) (b t:List UInt8) (p:List UInt8 × Nat),qtP m b t = some p → p.2 ≤ t.length
  | 0,b,t,p,h => by cases h
  | m + 1,b,[],p,h => by cases h
  | m + 1,b,c :: t,p,h => by
    rw [qtP_cons] at h
    split at h
    · cases t with
      | nil => injection h with h; subst h; simp
      | cons d u =>
        simp only at h
        split at h
        · cases e:qtP m (b ++ [c]) u with
          | none => rw [e] at h; cases h
          | some p' =>
            rw [e] at h; injection h with h; subst h
            have := qtP_le m _ _ _ e
            simp only [List.length_cons]; omega
        · injection h with h; subst h; simp
    · cases e:qtP m (b ++ [c]) t with
      | none => rw [e] at h; cases h
      | some p' =>
        rw [e] at h; injection h with h; subst h
        have := qtP_le m _ _ _ e
        simp only [List.length_cons]; omega
theorem quot80 {lf:Nat} {h:List Ob} {id:Nat} {s0 s:List UInt8} {wv:V} {ws:List Wd} {e:Int} (q:Scn h id s0 wv ws e) (hs:s.length ≤ 4000) (h1:1 ≤ s.length) (hws:ws.length ≤ 600) (hf:s.length < lf) :
    To2 (F33 lf (.ptr id 0 0) s h) fun v h' => match qtP s.length [] (s.drop 1) with
      | some (b,n) => v = .int .i64 ((1 + n:Nat):Int) ∧ ScnTo h id s0 wv (addP (decide (b.length ≤ 100)) ⟨3,b,0⟩ ws e) h'
      | none => v = .int .i64 ((s.length:Nat):Int) ∧ ScnTo h id s0 wv (ws,3) h' := by
  simp only [F33]
  have hlt:∀ j,j ∈ id :: idsOf wv → j < h.length := fun j hj => by
    rcases List.mem_cons.1 hj with rfl | hj
    · exact q.st.lt
    · exact q.sl.lt hj
  have hL := quotL lf (s := s) hs hws s.length 1 lf h [] .nils (by simp) hf h1 (by simp) ⟨Sl.nils _ _,Ap.nils,Kp.refl _ _,fun j hj => by cases hj⟩ q q hlt
  have z:((1:Nat):Int) = 1 := rfl
  rw [z] at hL
  refine To2.bind3 hL ?_
  rintro x vs h2 r
  cases e3:qtP s.length [] (s.drop 1) with
  | some p =>
    rw [e3] at r
    obtain ⟨rfl,rfl,r⟩ := r
    simp only [show decide (EX.ret = EX.exit 0) = false from rfl,cB_false,decide_true,cB_true,castCons_cons,castInt_int,castNil_nil]
    exact To2.some ⟨rfl,r⟩
  | none =>
    rw [e3] at r
    obtain ⟨rfl,rfl,k2⟩ := r
    have q2 := q.kp k2
    have nk := q2.st.nilck 0 0
    have f2 := q2.st.faddr 2 0 0
    simp only [Nat.zero_add] at f2
    simp only [decide_true,cB_true,castNil_nil,nk,f2,bind1_some]
    refine To2.bind2 (q2.err 3) ?_
    rintro u h3 ⟨q3,k3⟩
    exact To2.some ⟨rfl,wv,q3,k2.trans k3 (fun j hj => by cases hj) (fun j hj _ => by simp at hj; simp [hj]),fun j hj => .inl hj⟩
/-! ### A word -/
def wordP (r:Int) (t:List UInt8) (ws:List Wd) (e:Int):Nat × (List Wd × Int) :=
  if r = 39 then (match qtP t.length [] (t.drop 1) with
    | some (b,n) => (1 + n,addP (decide (b.length ≤ 100)) ⟨3,b,0⟩ ws e)
    | none => (t.length,(ws,3)))
  else if letterP r then (runP t.length t,addP (namedP (t.take (runP t.length t))) ⟨1,t.take (runP t.length t),0⟩ ws e)
  else if digitP r then (runP t.length t,addP (valueP (t.take (runP t.length t))).2 ⟨2,t.take (runP t.length t),(valueP (t.take (runP t.length t))).1⟩ ws e)
  else (max (sgP t) 1,addP (decide (0 < sgP t)) ⟨4,t.take (sgP t),0⟩ ws e)
theorem addP_len (ok:Bool) (w:Wd) (ws:List Wd) (e:Int) (h:ws.length ≤ 600):(addP ok w ws e).1.length ≤ 600 := by
  unfold addP
  split
  · exact h
  · split
    · exact h
    · simp only [List.length_append,List.length_cons,List.length_nil]; omega
theorem wordP_len (r:Int) (t:List UInt8) (ws:List Wd) (e:Int) (h:ws.length ≤ 600):(wordP r t ws e).2.1.length ≤ 600 := by
  unfold wordP
  split
  · split
    · exact addP_len _ _ _ _ h
    · exact h
  · split
    · exact addP_len _ _ _ _ h
    · split
      · exact addP_len _ _ _ _ h
      · exact addP_len _ _ _ _ h
theorem wordP_n (r:Int) (t:List UInt8) (ws:List Wd) (e:Int) (hne:t ≠ []):(wordP r t ws e).1 ≤ t.length + 1 := by
  have hl:0 < t.length := List.length_pos_iff.2 hne
  unfold wordP
  split
  · cases e3:qtP t.length [] (t.drop 1) with
    | none => simp
    | some p =>
      have := qtP_le _ _ _ _ e3
      simp only [List.length_drop] at this
      simp only; omega
  · split
    · have := runP_le t.length t; simp only; omega
    · split
      · have := runP_le t.length t; simp only; omega
      · have := (sgP_le hne).1; simp only; omega
theorem run_pos {t:List UInt8} (hne:t ≠ []) (h:(letterP (dc t).1 || digitP (dc t).1) = true):0 < runP t.length t := by
  cases t with
  | nil => exact absurd rfl hne
  | cons b t =>
    rw [List.length_cons,runP,if_neg hne,if_pos h]
    have := (dc_width _ hne).1
    omega
theorem word57 {lf:Nat} {h:List Ob} {id:Nat} {s0 t:List UInt8} {wv:V} {ws:List Wd} {e:Int} (q:Scn h id s0 wv ws e) (hs:t.length ≤ 4000) (hne:t ≠ []) (hws:ws.length ≤ 600) (hf:4010 < lf) :
    To2 (F24 lf (.ptr id 0 0) ((dc t).1:Int) t h) fun v h' => v = .int .i64 (((wordP (dc t).1 t ws e).1:Nat):Int) ∧ ScnTo h id s0 wv (wordP (dc t).1 t ws e).2 h' := by
  have hl:0 < t.length := List.length_pos_iff.2 hne
  have hrl := runP_le t.length t
  simp only [F24]
  unfold wordP
  by_cases c0:((dc t).1:Int) = 39
  · have e0:(((dc t).1:Int) == 39) = true := by simpa using c0
    rw [e0,cB_true,if_pos c0]
    refine To2.bind2 (quot80 q hs hl hws (by omega)) ?_
    rintro u h1 r
    cases e3:qtP t.length [] (t.drop 1) with
    | some p =>
      rw [e3] at r
      obtain ⟨rfl,r⟩ := r
      exact To2.some ⟨rfl,r⟩
    | none =>
      rw [e3] at r
      obtain ⟨rfl,r⟩ := r
      exact To2.some ⟨rfl,r⟩
  · have e0:(((dc t).1:Int) == 39) = false := by simpa using c0
    rw [e0,cB_false,if_neg c0,let28,bind2_some,castBool_bool]
    by_cases c1:letterP ((dc t).1:Int) = true
    · rw [c1,cB_true,if_pos rfl]
      refine To2.bind2 (run81 (by omega)) ?_
      rintro u h1 ⟨rfl,k1⟩
      have eb:er (.build [(.int .i64 0),(.str []),(.int .i64 0)] [(0,(1,(.c (.int .i64 (1))))),(1,(1,(.c (.str (t.take (runP t.length t))))))]) h1 = some (.agg [.int .i64 1,.str (t.take (runP t.length t)),.int .i64 0]) := rfl
      simp only [castInt_int,er_slcS_to hrl,bind1_some,castStr_str,eb,castAgg_agg,castCons_cons,castNil_nil]
      refine To2.bind2 (named58 (by simp; omega) (by simp; omega)) ?_
      rintro u h2 ⟨rfl,k2⟩
      have k12 := k1.tr k2
      simp only [castBool_bool]
      refine To2.bind2 (add82 ⟨1,t.take (runP t.length t),0⟩ (q.kp k12) hws) ?_
      rintro u h3 ⟨-,wv',q3,k3,f3⟩
      have := k12.len
      exact To2.some ⟨rfl,wv',q3,k12.trans k3 (fun j hj => by cases hj) (fun j hj _ => hj),fun j hj => (f3 j hj).elim .inl (fun z => .inr (by omega))⟩
    · simp only [Bool.not_eq_true] at c1
      rw [c1,cB_false,if_neg (by decide),dig83,bind2_some,castBool_bool]
      by_cases c2:digitP ((dc t).1:Int) = true
      · rw [c2,cB_true,if_pos rfl]
        have hpos := run_pos hne (by rw [c1,c2]; rfl)
        refine To2.bind2 (run81 (by omega)) ?_
        rintro u h1 ⟨rfl,k1⟩
        simp only [castInt_int,er_slcS_to hrl,bind1_some,castStr_str]
        refine To2.bind2 (value84 (by simp; omega) (by
          intro z
          have := congrArg List.length z
          rw [List.length_take,List.length_nil] at this
          omega)) ?_
        rintro u h2 ⟨rfl,k2⟩
        have k12 := k1.tr k2
        generalize valueP (t.take (runP t.length t)) = vp
        have eb:er (.build [(.int .i64 0),(.str []),(.int .i64 0)] [(0,(1,(.c (.int .i64 (2))))),(1,(1,(.c (.str (t.take (runP t.length t)))))),(2,(1,(.c (.int .i64 vp.1))))]) h2 = some (.agg [.int .i64 2,.str (t.take (runP t.length t)),.int .i64 vp.1]) := rfl
        simp only [castTup_tup,castCons_cons,castInt_int,castBool_bool,castNil_nil,er_slcS_to hrl,bind1_some,castStr_str,eb,castAgg_agg]
        refine To2.bind2 (add82 ⟨2,t.take (runP t.length t),vp.1⟩ (q.kp k12) hws) ?_
        rintro u h3 ⟨-,wv',q3,k3,f3⟩
        have := k12.len
        exact To2.some ⟨rfl,wv',q3,k12.trans k3 (fun j hj => by cases hj) (fun j hj _ => hj),fun j hj => (f3 j hj).elim .inl (fun z => .inr (by omega))⟩
      · simp only [Bool.not_eq_true] at c2
        rw [c2,cB_false,if_neg (by decide)]
        refine To2.bind2 (signed85 hne (by omega)) ?_
        rintro u h1 ⟨rfl,k1⟩
        have hsg := sgP_le hne
        have eb:er (.build [(.int .i64 0),(.str []),(.int .i64 0)] [(0,(1,(.c (.int .i64 (4))))),(1,(1,(.c (.str (t.take (sgP t))))))]) h1 = some (.agg [.int .i64 4,.str (t.take (sgP t)),.int .i64 0]) := rfl
        have eg:decide (((sgP t:Nat):Int) > 0) = decide (0 < sgP t) := decide_eq_decide.2 (by omega)
        have em:(if (1:Int) > ((sgP t:Nat):Int) then (1:Int) else ((sgP t:Nat):Int)) = ((max (sgP t) 1:Nat):Int) := by split <;> omega
        simp only [castInt_int,er_slcS_to hsg.1,bind1_some,castStr_str,eb,castAgg_agg,castCons_cons,castNil_nil,eg,em]
        refine To2.bind2 (add82 ⟨4,t.take (sgP t),0⟩ (q.kp k1) hws) ?_
        rintro u h3 ⟨-,wv',q3,k3,f3⟩
        have := k1.len
        exact To2.some ⟨rfl,wv',q3,k1.trans k3 (fun j hj => by cases hj) (fun j hj _ => hj),fun j hj => (f3 j hj).elim .inl (fun z => .inr (by omega))⟩
end Go.Proofs.YtjpjeilfmjdhcaaDoor.Ln
