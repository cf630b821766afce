/- ExprBack: an expression among a claim's data; the law for every input. No condition. -/
import Derived.Test.YtjpjeilfmjdhcaaDoorEbY
import Derived.Test.YtjpjeilfmjdhcaaDoorL4
namespace Go.Proofs.YtjpjeilfmjdhcaaDoor.Eb
open Go Go.Proofs.YtjpjeilfmjdhcaaDoor.E
open Go.Proofs.YtjpjeilfmjdhcaaDoor.Ln
open Go.Proofs.YtjpjeilfmjdhcaaDoor.Ex
open Go.Proofs.YtjpjeilfmjdhcaaDoor.Lb
set_option maxRecDepth 100000
set_option linter.unusedVariables false
set_option linter.unusedSimpArgs false
variable {H:Type}
theorem weights_all_mem {P:Program} {e:TypeId}:∀ {ds:List (DataW H)} {d:DataW H},d ∈ ds → ∀ n ∈ d.weights P e,n ∈ DataW.weightsAll P e ds
  | x :: ds,d,hd,n,hn => by
    simp only [DataW.weightsAll,List.mem_append]
    rcases List.mem_cons.1 hd with rfl | hd
    · exact .inl hn
    · exact .inr (weights_all_mem hd n hn)
theorem weights_slice_mem {P:Program} {t e:TypeId} (hu:P.underlying t = some (.slice e)) {ds sp:List (DataW H)} {d:DataW H} (hd:d ∈ ds) {n:Nat} (hn:n ∈ d.weights P e):n ∈ (DataW.slice ds sp).weights P t := by
  simp only [DataW.weights,hu,List.mem_cons,List.mem_append]
  exact .inr (.inl (weights_all_mem hd n hn))
theorem weights_struct_mem {P:Program} {t:TypeId} {fs:Array Field} (hu:P.underlying t = some (.struct fs)) {ps:List (DataW H)} {j:Nat} {t':TypeId} {d:DataW H} (ht:(fs.toList.map (·.type))[j]? = some t') (hd:ps[j]? = some d) {n:Nat} (hn:n ∈ d.weights P t'):n ∈ (DataW.agg ps).weights P t := by
  simp only [DataW.weights,hu]
  exact DataW.weights_mem_each ht hd n hn
theorem dVs_mem {P:Program}:∀ {ds:List (DataW H)} {e:TypeId} {es:List V},dVs P ds e = some es → ∀ v,v ∈ es → ∃ (d:DataW H) (cs:List V),d ∈ ds ∧ dV P d e = some cs ∧ v = elemV P e cs
  | [],e,es,h,v,hi => by simp [dVs] at h; subst h; simp at hi
  | d :: ds,e,es,h,v,hi => by
    simp only [dVs] at h
    split at h
    · rename_i cs es' h1 h2
      injection h with h; subst h
      rcases List.mem_cons.1 hi with rfl | hi
      · exact ⟨d,cs,List.mem_cons_self,h1,rfl⟩
      · obtain ⟨d',cs',q1,q2,q3⟩ := dVs_mem h2 v hi
        exact ⟨d',cs',List.mem_cons_of_mem _ q1,q2,q3⟩
    · cases h
theorem Wz.mono {w:Nat}:∀ {k m:Nat} {x:X},Wz w k x → k ≤ m → Wz w m x
  | k + 1,m + 1,.mk n ps,d,h => ⟨d.1,fun p hp => Wz.mono (d.2 p hp) (by omega)⟩
  | k + 1,0,.mk n ps,d,h => by omega
theorem Vz.mono:∀ {k m:Nat} {x:X},Vz k x → k ≤ m → Vz m x
  | k + 1,m + 1,.mk n ps,d,h => ⟨d.1,fun p hp => Vz.mono (d.2 p hp) (by omega)⟩
  | k + 1,0,.mk n ps,d,h => by omega
/-- What stands for an expression in the data. -/
def Gdx (v:V) (x:X):Prop := (∀ (I:Nat → Prop) (h:List Ob),Ex I h v x) ∧ strV v = true ∧ ∃ k,Fz 1256584717421 k x ∧ Wz 140737488351232 k x ∧ Vz k x
theorem goods:∀ {es:List V},(∀ e,e ∈ es → ∃ x,Gdx e x) → ∃ ps:List X,es.length = ps.length ∧ (∀ (i:Nat) (e:V) (p:X),es[i]? = some e → ps[i]? = some p → ∀ (I:Nat → Prop) (h:List Ob),Ex I h e p) ∧ ∃ k,∀ p,p ∈ ps → Fz 1256584717421 k p ∧ Wz 140737488351232 k p ∧ Vz k p
  | [],_ => ⟨[],rfl,(fun i e p h => by simp at h),0,fun p hp => by cases hp⟩
  | e :: es,h => by
    obtain ⟨ps,h1,h2,k,h3⟩ := goods (es := es) (fun e he => h e (List.mem_cons_of_mem _ he))
    obtain ⟨x,x1,-,m,x2,x3,x4⟩ := h e List.mem_cons_self
    refine ⟨x :: ps,by simp [h1],?_,max k m,?_⟩
    · intro i a p ha hp
      cases i with
      | zero => simp at ha hp; subst ha; subst hp; exact x1
      | succ i => simp at ha hp; exact h2 i a p ha hp
    · intro p hp
      rcases List.mem_cons.1 hp with rfl | hp
      · exact ⟨x2.mono (by omega),Wz.mono x3 (by omega),x4.mono (by omega)⟩
      · exact ⟨(h3 p hp).1.mono (by omega),Wz.mono (h3 p hp).2.1 (by omega),(h3 p hp).2.2.mono (by omega)⟩
theorem dV_val {d:DataW H} {vs:List V} (hw:∀ n ∈ d.weights Tryd.prog 23,n ≤ reachBytes) (h:dV Tryd.prog d 23 = some vs):∃ vk vn s,vs = [.int .i64 vk,.int .i64 vn,.str s] ∧ vn ≤ 9223372036854775807 := by
  obtain ⟨ps,rfl,q0⟩ := dV_struct Tryd.underlying23 h
  obtain ⟨d0,ps0,a0,b0,rfl,g0,q1,rfl⟩ := dVf_cons q0
  obtain ⟨d1,ps1,a1,b1,rfl,g1,q2,rfl⟩ := dVf_cons q1
  obtain ⟨d2,ps2,a2,b2,rfl,g2,q3,rfl⟩ := dVf_cons q2
  obtain ⟨rfl,rfl⟩ := dVf_nil q3
  obtain ⟨k,rfl,_⟩ := dV_i64 Tryd.underlying3 g0
  obtain ⟨n,rfl,hn⟩ := dV_i64 Tryd.underlying2 g1
  obtain ⟨s,rfl⟩ := dV_str Tryd.underlying9 g2
  exact ⟨k,n,s,rfl,by omega⟩
theorem agg26:isAggT Tryd.prog 26 = true := by kernel_rfl
theorem bytes26:Tryd.prog.bytesOf 26 = 112 := by kernel_rfl
theorem dV_expr:∀ (z:Nat) (d:DataW H) (vs:List V),SizeOf.sizeOf d ≤ z → (∀ n ∈ d.weights Tryd.prog 26,n ≤ reachBytes) → dV Tryd.prog d 26 = some vs → ∃ n pv ps,vs = aC n pv ∧ Gdx (.agg vs) (.mk n ps)
  | 0,d,vs,hz,_,_ => by cases d <;> simp at hz
  | z + 1,d,vs,hz,hw,h => by
    obtain ⟨ps,rfl,q0⟩ := dV_struct Tryd.underlying26 h
    obtain ⟨d0,ps0,a0,b0,rfl,g0,q1,rfl⟩ := dVf_cons q0
    obtain ⟨d1,ps1,a1,b1,rfl,g1,q2,rfl⟩ := dVf_cons q1
    obtain ⟨d2,ps2,a2,b2,rfl,g2,q3,rfl⟩ := dVf_cons q2
    obtain ⟨d3,ps3,a3,b3,rfl,g3,q4,rfl⟩ := dVf_cons q3
    obtain ⟨d4,ps4,a4,b4,rfl,g4,q5,rfl⟩ := dVf_cons q4
    obtain ⟨d5,ps5,a5,b5,rfl,g5,q6,rfl⟩ := dVf_cons q5
    obtain ⟨rfl,rfl⟩ := dVf_nil q6
    obtain ⟨k,rfl,_⟩ := dV_i64 Tryd.underlying3 g0
    obtain ⟨op,rfl⟩ := dV_str Tryd.underlying9 g1
    obtain ⟨vk,vn,s,rfl,hvn⟩ := dV_val (fun m hm => hw m (weights_struct_mem Tryd.underlying26 (j := 2) rfl rfl hm)) g2
    obtain ⟨tb,rfl⟩ := dV_str Tryd.underlying9 g3
    obtain ⟨cl,rfl⟩ := dV_str Tryd.underlying9 g4
    have ltb := str_sized Tryd.underlying9 g3 (fun m hm => hw m (weights_struct_mem Tryd.underlying26 (j := 3) rfl rfl hm))
    have lcl := str_sized Tryd.underlying9 g4 (fun m hm => hw m (weights_struct_mem Tryd.underlying26 (j := 4) rfl rfl hm))
    have hw5:∀ n ∈ d5.weights Tryd.prog 24,n ≤ reachBytes := fun m hm => hw m (weights_struct_mem Tryd.underlying26 (j := 5) rfl rfl hm)
    have hr:reachBytes = 140737488351232 := by decide
    rcases dV_slice' Tryd.underlying24 g5 with rfl | ⟨elems,sp,es,rfl,e1,rfl,e2⟩
    · refine ⟨⟨k,op,vk,vn,s,tb,cl⟩,.nils,[],rfl,?_,rfl,1,?_,?_,?_⟩
      · intro I h
        exact Ex.mk (n := ⟨k,op,vk,vn,s,tb,cl⟩) (es := []) (ps := []) (Sl.nils 8 h) (fun j hj => by cases hj) rfl (fun i e p q => by simp at q)
      · exact ⟨by simp,fun p hp => by cases hp⟩
      · exact ⟨⟨ltb,lcl,by simp⟩,fun p hp => by cases hp⟩
      · exact ⟨hvn,fun p hp => by cases hp⟩
    · have hle := dVs_length e1
      have wl:(elems.length + sp.length) * 112 ≤ reachBytes := hw5 _ (by simp [DataW.weights,Tryd.underlying24,bytes26])
      have each:∀ e,e ∈ es → ∃ x,Gdx e x := by
        intro e he
        obtain ⟨di,cs,hdi,f1,f2⟩ := dVs_mem e1 e he
        have hs:SizeOf.sizeOf di < SizeOf.sizeOf elems := List.sizeOf_lt_of_mem hdi
        simp at hz
        obtain ⟨n,pv,qs,rfl,gd⟩ := dV_expr z di cs (by omega) (fun m hm => hw5 m (weights_slice_mem Tryd.underlying24 hdi hm)) f1
        refine ⟨.mk n qs,?_⟩
        rw [f2]
        simp only [elemV,agg26]
        exact gd
      obtain ⟨qs,l1,l2,m,l3⟩ := goods each
      have hstr:strV (.agg (aC ⟨k,op,vk,vn,s,tb,cl⟩ (.sl es))) = true := by
        have h1:headS es = true := by
          cases es with
          | nil => rfl
          | cons e es =>
            obtain ⟨x,gx,-⟩ := each e List.mem_cons_self
            have := gx (fun _ => True) []
            cases this
            rfl
        have h2:strVs es = true := strVs_of (fun e he => (each e he).elim fun x gx => gx.2.1)
        simp [strV,strVs,h1,h2]
      refine ⟨⟨k,op,vk,vn,s,tb,cl⟩,.sl es,qs,rfl,?_,hstr,m + 1,?_,?_,?_⟩
      · intro I h
        refine Ex.mk (n := ⟨k,op,vk,vn,s,tb,cl⟩) (pv := .sl es) (Sl.sl ?_) (fun j hj => by cases hj) l1 (fun i e p q1 q2 => l2 i e p q1 q2 I h)
        cases es with
        | nil => rfl
        | cons e es =>
          obtain ⟨x,gx,-⟩ := each e List.mem_cons_self
          have := gx (fun _ => True) []
          cases this; rfl
      · exact ⟨(by omega:qs.length ≤ 1256584717421),fun p hp => (l3 p hp).1⟩
      · exact ⟨⟨ltb,lcl,by omega⟩,fun p hp => (l3 p hp).2.1⟩
      · exact ⟨hvn,fun p hp => (l3 p hp).2.2⟩
theorem shape {d0:DataW H} {u0:List V} {e1 e2:TypeId} {m:Int} (hsz:(DataW.weightsEach Tryd.prog [26] [d0]).all (· ≤ reachBytes) = true) (h0:dV Tryd.prog d0 26 = some u0) :
    CE Tryd.prog 3 [.agg u0] (pins [(0,.u64,Lib.pow10Tab,e1),(1,.i64,[m],e2)]) fun v h' => v = .bool true ∧ Kp (pins [(0,.u64,Lib.pow10Tab,e1),(1,.i64,[m],e2)]) h' [] := by
  obtain ⟨n,pv,ps,rfl,g0,-,k,f0,z0,v0⟩ := dV_expr _ d0 u0 (Nat.le_refl _) (wt_param hsz (j := 0) rfl rfl) h0
  have pin:PinH (pins [(0,.u64,Lib.pow10Tab,e1),(1,.i64,[m],e2)]) := ⟨⟨e1,rfl⟩,m,e2,rfl⟩
  obtain ⟨v,h',e,hv,hk⟩ := law3 (lf := 140737488351233 + k) (w := 1256584717421) (wz := 140737488351232) (by omega) (by omega) (by omega) (by omega) (by omega) (by omega) f0 z0 v0 (g0 (fun _ => True) _) pin
  have c := W3_ok (140737488351233 + k) [.agg (aC n pv)] _ v h' e
  exact c.2.mono (fun a b q => by rw [q.1,q.2]; exact ⟨hv,hk⟩)
theorem shape_str {d0:DataW H} {u0:List V} (hsz:(DataW.weightsEach Tryd.prog [26] [d0]).all (· ≤ reachBytes) = true) (h0:dV Tryd.prog d0 26 = some u0):strV (.agg u0) = true := by
  obtain ⟨n,pv,ps,rfl,g0,hs,-⟩ := dV_expr _ d0 u0 (Nat.le_refl _) (wt_param hsz (j := 0) rfl rfl) h0
  exact hs
end Go.Proofs.YtjpjeilfmjdhcaaDoor.Eb
