/- The layer E, its parts in one file: values and memory, operations, code, and what it comes to. No condition. -/
import Derived.Test.YtjpjeilfmjdhcaaDoorL2
import Derived.ChangeOld
import Derived.ChangeSlices
import Derived.Below
/- The layer E, part 34: a region whose order is drawn, where some operations that act stand in no fixed order: one order for each order of these. No condition. -/
namespace Go.Proofs.YtjpjeilfmjdhcaaDoor.E
set_option linter.unusedSimpArgs false
set_option linter.unusedVariables false
def chkP (n:Nat) (pre:Nat → List Nat) (cs:Nat → EG) (re pc:Nat → List Nat):List Nat → List Nat → Bool
  | _,[] => true
  | seen,i :: rest => !seen.contains i && (decide (i < n) && ((pre i).all (seen.contains ·) && ((pc i).all (fun j => seen.contains j && (pre i).any (fun p => p == j || (pc p).contains j)) &&
      (((cs i).act.kind == 2 || (re i).isEmpty) && ((re i).all (seen.contains ·) && (seen.all (fun a => (pc i).contains a || okPair cs re pc a i) && chkP n pre cs re pc (i :: seen) rest))))))
structure Vp1 (n:Nat) (pr:Nat → List Nat) (cs:Nat → EG) (re pc:Nat → List Nat) (before:Nat → Prop) (i:Nat):Prop where
  lt:i < n
  pre:∀ p,p ∈ pr i → before p
  pcs:∀ j,j ∈ pc i → before j ∧ ∃ p,p ∈ pr i ∧ (p = j ∨ j ∈ pc p)
  quiet:(cs i).act.kind < 2 → re i = []
  res:∀ r,r ∈ re i → before r
theorem chkP_spec {n:Nat} {pre:Nat → List Nat} {cs:Nat → EG} {re pc:Nat → List Nat}:∀ (C seen:List Nat),chkP n pre cs re pc seen C = true →
    ∀ A i B,C = A ++ i :: B → (i ∉ A ∧ i ∉ seen) ∧ Vp1 n pre cs re pc (fun j => j ∈ A ∨ j ∈ seen) i ∧ ∀ a,(a ∈ A ∨ a ∈ seen) → a ∈ pc i ∨ okPair cs re pc a i = true
  | [],seen,h,A,i,B,e => by cases A <;> simp at e
  | c :: C,seen,h,A,i,B,e => by
    simp only [chkP,Bool.and_eq_true,decide_eq_true_eq,Bool.not_eq_true',List.all_eq_true,Bool.or_eq_true,List.contains_eq_mem,decide_eq_false_iff_not,List.any_eq_true,beq_iff_eq,List.isEmpty_iff] at h
    obtain ⟨h1,h2,h3,h4,h5,h6,h7,h8⟩ := h
    cases A with
    | nil =>
      simp only [List.nil_append,List.cons.injEq] at e
      obtain ⟨rfl,rfl⟩ := e
      refine ⟨⟨by simp,h1⟩,⟨h2,fun p hp => .inr (h3 p hp),fun j hj => ⟨.inr (h4 j hj).1,?_⟩,fun hk => ?_,fun r hr => .inr (h6 r hr)⟩,fun a ha => ?_⟩
      · exact (h4 j hj).2
      · rcases h5 with q | q
        · omega
        · exact q
      · rcases ha with q | q
        · simp at q
        · exact h7 a q
    | cons a A =>
      simp only [List.cons_append,List.cons.injEq] at e
      obtain ⟨rfl,rfl⟩ := e
      obtain ⟨g1,g2,g3⟩ := chkP_spec _ (c :: seen) h8 A i B rfl
      have key:∀ j,(j ∈ A ∨ j ∈ c :: seen) → (j ∈ c :: A ∨ j ∈ seen) := by
        intro j hj
        simp only [List.mem_cons] at hj ⊢
        rcases hj with q | q | q
        · exact .inl (.inr q)
        · exact .inl (.inl q)
        · exact .inr q
      have key':∀ j,(j ∈ c :: A ∨ j ∈ seen) → (j ∈ A ∨ j ∈ c :: seen) := by
        intro j hj
        simp only [List.mem_cons] at hj ⊢
        rcases hj with (q | q) | q
        · exact .inr (.inl q)
        · exact .inl q
        · exact .inr (.inr q)
      refine ⟨⟨fun q => ?_,fun q => g1.2 (by simp [q])⟩,⟨g2.lt,fun p hp => key _ (g2.pre p hp),fun j hj => ⟨key _ (g2.pcs j hj).1,(g2.pcs j hj).2⟩,g2.quiet,fun r hr => key _ (g2.res r hr)⟩,fun a ha => g3 a (key' a ha)⟩
      rcases List.mem_cons.1 q with q | q
      · exact g1.2 (by simp [q])
      · exact g1.1 q
/-- An order keeps what is to be ahead. -/
def Resp (pre:Nat → List Nat) (listed:Nat → Prop) (l:List Nat):Prop := ∀ X i Y,l = X ++ i :: Y → ∀ p,p ∈ pre i → p ∈ X ∨ listed p
section
variable {P:Program} {Q:Post} {n:Nat} {pre:Nat → List Nat} {cs:Nat → EG} {re pc:Nat → List Nat}
def Vp (n:Nat) (pre:Nat → List Nat) (cs:Nat → EG) (re pc:Nat → List Nat) (listed:Nat → Prop) (C:List Nat):Prop :=
  ∀ A i B,C = A ++ i :: B → i ∉ A ∧ Vp1 n pre cs re pc (fun j => j ∈ A ∨ listed j) i ∧ ∀ a,a ∈ A → a ∈ pc i ∨ okPair cs re pc a i = true
theorem Vp.out {listed listed':Nat → Prop} {A B:List Nat} {i:Nat} (v:Vp n pre cs re pc listed (A ++ i :: B)) (hl:∀ j,listed j → listed' j) (hi:listed' i):Vp n pre cs re pc listed' (A ++ B) := by
  intro A2 j B2 e
  have mk:∀ A3 B3,A ++ i :: B = A3 ++ j :: B3 → (∀ x,x ∈ A3 → x = i ∨ x ∈ A2) → (∀ x,x ∈ A2 → x ∈ A3) → j ∉ A2 ∧ Vp1 n pre cs re pc (fun k => k ∈ A2 ∨ listed' k) j ∧ ∀ a,a ∈ A2 → a ∈ pc j ∨ okPair cs re pc a j = true := by
    intro A3 B3 e3 h1 h2
    obtain ⟨g1,g2,g3⟩ := v A3 j B3 e3
    have key:∀ x,(x ∈ A3 ∨ listed x) → (x ∈ A2 ∨ listed' x) := by
      rintro x (q | q)
      · rcases h1 x q with rfl | z
        · exact .inr hi
        · exact .inl z
      · exact .inr (hl x q)
    exact ⟨fun q => g1 (h2 j q),⟨g2.lt,fun p hp => key p (g2.pre p hp),fun k hk => ⟨key k (g2.pcs k hk).1,(g2.pcs k hk).2⟩,g2.quiet,fun r hr => key r (g2.res r hr)⟩,fun a ha => g3 a (h2 a ha)⟩
  rcases append_split e with ⟨X,h1,h2⟩ | ⟨X,h1,h2⟩
  · subst h1 h2
    exact mk A2 (X ++ i :: B) (by simp) (fun x hx => .inr hx) (fun x hx => hx)
  · subst h1 h2
    exact mk (A ++ i :: X) B2 (by simp) (fun x hx => by simp at hx ⊢; rcases hx with q | q | q <;> simp [q]) (fun x hx => by simp at hx ⊢; rcases hx with q | q <;> simp [q])
/-- From the one order to another one that keeps the same. -/
theorem draw_list:∀ (l C:List Nat) (listed:Nat → Prop) (t:Nat → V) (h:List Ob),l.Nodup → (∀ i,i ∈ l ↔ i ∈ C) → (∀ i,i ∈ C → ¬ listed i) → (∀ i,listed i → ∀ j,j ∈ pc i → listed j) →
    Resp pre listed l → Vp n pre cs re pc listed C → wpI P Q (C.map (annI cs re)) t h → wpI P Q (l.map (annI cs fun _ => [])) t h
  | [],C,listed,t,h,_,hm,_,_,_,_,w => by
    cases C with
    | nil => exact w
    | cons c C => exact absurd ((hm c).2 (by simp)) (by simp)
  | i :: l,C,listed,t,h,hn,hm,hu,hpc,hr,v,w => by
    have hiC:i ∈ C := (hm i).1 (by simp)
    obtain ⟨A,B,rfl⟩ := List.append_of_mem hiC
    have hnd := nodup_of fun A i B e => (v A i B e).1
    obtain ⟨g1,g2,g3⟩ := v A i B rfl
    have hpre:∀ p,p ∈ pre i → listed p := fun p hp => (hr [] i l rfl p hp).elim (fun q => by simp at q) (fun q => q)
    have unl:∀ a,a ∈ A → ¬ listed a := fun a ha => hu a (by simp [ha])
    have hpci:∀ j,j ∈ pc i → listed j := by
      intro j hj
      obtain ⟨p,hp,q⟩ := (g2.pcs j hj).2
      rcases q with rfl | q
      · exact hpre p hp
      · exact hpc p (hpre p hp) j q
    have hok:∀ a,a ∈ A → okPair cs re pc a i = true := by
      intro a ha
      rcases g3 a ha with q | q
      · exact absurd (hpci a q) (unl a ha)
      · exact q
    have hA:A.Nodup := (List.nodup_append.1 hnd).1
    have st := move (P := P) (Q := Q) (cs := cs) (re := re) (i := i) g2.quiet A B t h (fun a ha => by
        obtain ⟨q1,q2,q3,q4,q5⟩ := okPair_spec (hok a ha)
        obtain ⟨X,Y,e⟩ := List.append_of_mem ha
        obtain ⟨_,u2,_⟩ := v X a (Y ++ i :: B) (by rw [e]; simp)
        exact ⟨q1,u2.quiet q1,q2,q3,q4⟩)
      (fun A1 b A2 e r hr' hne hrA => by
        have hb:b ∈ A := by rw [e]; simp
        obtain ⟨q1,q2,q3,q4,q5⟩ := okPair_spec (hok b hb)
        rcases q5 r hr' with q | q | q
        · exact absurd q hne
        · exfalso
          rcases g2.res r hr' with z | z
          · rw [e] at z
            have hrA1:r ∈ A1 := by
              simp only [List.mem_append,List.mem_cons] at z
              rcases z with z | z | z
              · exact z
              · exact absurd z hne
              · exact absurd z hrA
            obtain ⟨X,Y,e'⟩ := List.append_of_mem hrA1
            obtain ⟨_,u2,_⟩ := v X r (Y ++ b :: A2 ++ i :: B) (by rw [e,e']; simp)
            rcases (u2.pcs b q).1 with y | y
            · rw [e,e'] at hA
              have:(X ++ r :: Y ++ b :: A2).Nodup := hA
              have := (List.nodup_append.1 this).2.2 b (by simp [y]) b (by simp)
              exact this rfl
            · exact unl b hb y
          · exact unl b hb (hpc r z b q)
        · exact q) hA w
    simp only [List.map_cons]
    rw [wpI_cons]
    refine step_mono (fun _ _ => rfl) st (fun v' h' k => ?_)
    rw [andRe_iff]
    refine ⟨fun g hg => by simp [annI] at hg,?_⟩
    have hn' := List.nodup_cons.1 hn
    have hiA:i ∉ A := g1
    have hiB:i ∉ B := (List.nodup_cons.1 (List.nodup_append.1 hnd).2.1).1
    refine draw_list l (A ++ B) (fun j => j = i ∨ listed j) _ h' hn'.2 (fun j => ?_) (fun j hj q => ?_) (fun j hj k' hk' => ?_) (fun X j Y e p hp => ?_) (v.out (fun j hj => .inr hj) (.inl rfl)) k.2
    · have := hm j
      simp only [List.mem_append,List.mem_cons] at this ⊢
      constructor
      · intro q
        have hji:j ≠ i := by rintro rfl; exact hn'.1 q
        rcases this.1 (.inr q) with y | y | y
        · exact .inl y
        · exact absurd y hji
        · exact .inr y
      · intro q
        have hji:j ≠ i := by rintro rfl; exact q.elim hiA hiB
        rcases this.2 (q.elim .inl (fun z => .inr (.inr z))) with y | y
        · exact absurd y hji
        · exact y
    · rcases q with rfl | q
      · exact (List.mem_append.1 hj).elim hiA hiB
      · exact hu j (by simp only [List.mem_append,List.mem_cons] at hj ⊢; rcases hj with z | z <;> simp [z]) q
    · rcases hj with rfl | hj
      · exact .inr (hpci k' hk')
      · exact .inr (hpc j hj k' hk')
    · rcases hr (i :: X) j Y (by rw [e]; rfl) p hp with q | q
      · rcases List.mem_cons.1 q with q | q
        · exact .inr (.inl q)
        · exact .inl q
      · exact .inr (.inr q)
end
/-! ### A drawn order keeps what is to be ahead, and has all -/
theorem goR_spec {ops:Array Oper}:∀ (fuel tk:Nat) (listed:Array Bool) (C:List Nat),C.length ≤ fuel → listed.size = ops.size → (∀ i,i ∈ C ↔ i < ops.size ∧ listed.getD i false = false) → C.Nodup →
    Resp (preOf ops) (fun i => listed.getD i false = true) C →
    (goR .any ops fuel tk listed).Nodup ∧ (∀ i,i ∈ goR .any ops fuel tk listed ↔ i ∈ C) ∧ Resp (preOf ops) (fun i => listed.getD i false = true) (goR .any ops fuel tk listed) := by
  intro fuel
  induction fuel with
  | zero =>
    intro tk listed C hf _ _ _ _
    cases C with
    | nil => exact ⟨by simp [goR],fun i => by simp [goR],fun X i Y e => by simp [goR] at e⟩
    | cons c C => simp at hf
  | succ fuel ih =>
    intro tk listed C hf hsz hC hnd hr
    have hmem:∀ i,i ∈ ((List.range ops.size).filter fun i =>
      !listed.getD i true && ((ops[i]?).map (·.after.all fun e => !Region.binds .any e || listed.getD e.on false)).getD false) ↔
        i ∈ C ∧ ∀ p,p ∈ preOf ops i → listed.getD p false = true := by
      intro i
      rw [List.mem_filter,List.mem_range,hC]
      constructor
      · rintro ⟨h1,h2⟩
        simp only [Bool.and_eq_true,Bool.not_eq_true'] at h2
        obtain ⟨h2,h3⟩ := h2
        refine ⟨⟨h1,?_⟩,fun p hp => ?_⟩
        · rw [Array.getD_eq_getD_getElem?,Array.getElem?_eq_getElem (by omega)] at h2 ⊢
          exact h2
        · unfold preOf at hp
          rw [Array.getElem?_eq_getElem h1] at hp h3
          simp only [List.mem_map,List.mem_filter] at hp
          obtain ⟨e,⟨e1,e2⟩,rfl⟩ := hp
          simp only [Option.map_some,Option.getD_some,Array.all_eq_true_iff_forall_mem,Bool.or_eq_true,Bool.not_eq_true'] at h3
          rcases h3 e (by simpa using e1) with q | q
          · rw [e2] at q; cases q
          · exact q
      · rintro ⟨⟨h1,h2⟩,h3⟩
        refine ⟨h1,?_⟩
        simp only [Bool.and_eq_true,Bool.not_eq_true']
        refine ⟨?_,?_⟩
        · rw [Array.getD_eq_getD_getElem?,Array.getElem?_eq_getElem (by omega)] at h2 ⊢
          exact h2
        · rw [Array.getElem?_eq_getElem h1]
          simp only [Option.map_some,Option.getD_some,Array.all_eq_true_iff_forall_mem,Bool.or_eq_true,Bool.not_eq_true']
          intro e he
          cases hb:Region.binds .any e with
          | false => exact .inl rfl
          | true =>
            refine .inr (h3 e.on ?_)
            unfold preOf
            rw [Array.getElem?_eq_getElem h1]
            simp only [List.mem_map,List.mem_filter]
            exact ⟨e,⟨by simpa using he,hb⟩,rfl⟩
    simp only [goR]
    generalize hrs:((List.range ops.size).filter fun i =>
      !listed.getD i true && ((ops[i]?).map (·.after.all fun e => !Region.binds .any e || listed.getD e.on false)).getD false) = rs at hmem ⊢
    cases hrk:rs[tk % rs.length]? with
    | none =>
      simp only
      cases C with
      | nil => exact ⟨List.nodup_nil,fun i => by simp,fun X i Y e => by simp at e⟩
      | cons c C =>
        exfalso
        have hc:c ∈ rs := (hmem c).2 ⟨by simp,fun p hp => (hr [] c C rfl p hp).elim (fun q => by simp at q) (fun q => q)⟩
        have hl:0 < rs.length := List.length_pos_of_mem hc
        rw [List.getElem?_eq_getElem (Nat.mod_lt _ hl)] at hrk
        cases hrk
    | some i =>
      simp only
      obtain ⟨hiC,hpre⟩ := (hmem i).1 (List.mem_of_getElem? hrk)
      obtain ⟨A,B,rfl⟩ := List.append_of_mem hiC
      have hil := (hC i).1 hiC
      have hget:∀ j,(listed.setIfInBounds i true).getD j false = true ↔ j = i ∨ listed.getD j false = true := by
        intro j
        rw [Array.getD_eq_getD_getElem?,Array.getD_eq_getD_getElem?,Array.getElem?_setIfInBounds]
        split
        · rename_i q; subst q
          simp [hsz,hil.1]
        · rename_i q
          constructor
          · intro z; exact .inr z
          · rintro (z | z)
            · exact absurd z.symm q
            · exact z
      have hnd' := List.nodup_append.1 hnd
      have hiA:i ∉ A := fun q => hnd'.2.2 i q i (by simp) rfl
      have hiB:i ∉ B := (List.nodup_cons.1 hnd'.2.1).1
      obtain ⟨z1,z2,z3⟩ := ih (tk / rs.length) (listed.setIfInBounds i true) (A ++ B) (by simp only [List.length_append,List.length_cons] at hf ⊢; omega) (by simpa using hsz) (fun j => by
          have hf':(listed.setIfInBounds i true).getD j false = false ↔ ¬ (j = i ∨ listed.getD j false = true) := by
            rw [← hget j]; simp
          rw [hf']
          have := hC j
          simp only [List.mem_append,List.mem_cons] at this ⊢
          constructor
          · intro q
            have hj:j ≠ i := by rintro rfl; exact q.elim hiA hiB
            obtain ⟨z1,z2⟩ := this.1 (q.elim .inl (fun z => .inr (.inr z)))
            exact ⟨z1,fun y => y.elim hj (fun y => by rw [z2] at y; cases y)⟩
          · rintro ⟨z1,z2⟩
            have z3:listed.getD j false = false := by simpa using fun y => z2 (.inr y)
            rcases this.2 ⟨z1,z3⟩ with y | y | y
            · exact .inl y
            · exact absurd (.inl y) z2
            · exact .inr y) (by
          refine List.nodup_append.2 ⟨hnd'.1,(List.nodup_cons.1 hnd'.2.1).2,fun a ha b hb => hnd'.2.2 a ha b (by simp [hb])⟩) (fun X j Y e p hp => by
          show p ∈ X ∨ (listed.setIfInBounds i true).getD p false = true
          rw [hget]
          rcases append_split e with ⟨Z,h1,h2⟩ | ⟨Z,h1,h2⟩
          · subst h1 h2
            rcases hr X j (Z ++ i :: B) (by simp) p hp with q | q
            · exact .inl q
            · exact .inr (.inr q)
          · subst h1 h2
            rcases hr (A ++ i :: Z) j Y (by simp) p hp with q | q
            · simp only [List.mem_append,List.mem_cons] at q ⊢
              rcases q with q | q | q
              · exact .inl (.inl q)
              · exact .inr (.inl q)
              · exact .inl (.inr q)
            · exact .inr (.inr q))
      refine ⟨List.nodup_cons.2 ⟨fun q => ?_,z1⟩,fun j => ?_,fun X j Y e p hp => ?_⟩
      · exact (List.mem_append.1 ((z2 i).1 q)).elim hiA hiB
      · simp only [List.mem_cons,z2,List.mem_append]
        constructor
        · rintro (q | q | q)
          · exact .inr (.inl q)
          · exact .inl q
          · exact .inr (.inr q)
        · rintro (q | q | q)
          · exact .inr (.inl q)
          · exact .inl q
          · exact .inr (.inr q)
      · cases X with
        | nil =>
          simp only [List.nil_append,List.cons.injEq] at e
          obtain ⟨rfl,rfl⟩ := e
          exact .inr (hpre p hp)
        | cons x X =>
          simp only [List.cons_append,List.cons.injEq] at e
          obtain ⟨rfl,e⟩ := e
          rcases z3 X j Y e p hp with q | q
          · exact .inl (by simp [q])
          · replace q:(listed.setIfInBounds i true).getD p false = true := q
            rw [hget] at q
            rcases q with rfl | q
            · exact .inl (by simp)
            · exact .inr q
/-! ### The plans -/
def planPcP (pre:Nat → List Nat) (ord:List Nat):List (Nat × List Nat) :=
  ord.foldl (fun acc i => (i,((pre i).flatMap fun p => p :: (acc.lookup p).getD []).eraseDups) :: acc) []
def planOrdP (pre:Nat → List Nat) (quiet:Nat → Bool):Nat → List Nat → List Nat → List Nat
  | 0,_,done => done.reverse
  | fuel + 1,left,done =>
    let ready := left.filter fun i => (pre i).all (done.contains ·)
    match ready.find? quiet with
    | some i => planOrdP pre quiet fuel (left.erase i) (i :: done)
    | none => match ready with
      | i :: _ => planOrdP pre quiet fuel (left.erase i) (i :: done)
      | [] => done.reverse
def planReP (pc:Nat → List Nat) (kind:Nat → Nat):List Nat → List Nat → List (Nat × List Nat)
  | _,[] => []
  | seen,i :: rest => (i,if kind i == 2 then (seen.filter fun a => kind a == 1 && !(pc i).contains a) else []) :: planReP pc kind (i :: seen) rest
def sigsOf (bef:Nat → List Nat):Nat → List Nat → List (List Nat)
  | 0,_ => [[]]
  | _ + 1,[] => [[]]
  | f + 1,l => l.flatMap fun i => if l.all (fun j => !(bef i).contains j) then (sigsOf bef f (l.erase i)).map (i :: ·) else []
def preS (pre:Nat → List Nat) (lo:Nat → Bool) (sig:List Nat) (i:Nat):List Nat := pre i ++ (if lo i then sig.takeWhile (fun j => !(j == i)) else [])
def topoB (pre:Nat → List Nat):List Nat → List Nat → Bool
  | _,[] => true
  | seen,i :: rest => !seen.contains i && ((pre i).all (seen.contains ·) && topoB pre (i :: seen) rest)
theorem topoB_spec {pre:Nat → List Nat}:∀ (C seen:List Nat),topoB pre seen C = true → C.Nodup ∧ (∀ i,i ∈ C → i ∉ seen) ∧ Resp pre (· ∈ seen) C
  | [],seen,_ => ⟨List.nodup_nil,fun i h => by simp at h,fun X i Y e => by simp at e⟩
  | c :: C,seen,h => by
    simp only [topoB,Bool.and_eq_true,Bool.not_eq_true',List.all_eq_true,List.contains_eq_mem,decide_eq_false_iff_not,decide_eq_true_eq] at h
    obtain ⟨h1,h2,h3⟩ := h
    obtain ⟨g1,g2,g3⟩ := topoB_spec C (c :: seen) h3
    refine ⟨List.nodup_cons.2 ⟨fun q => g2 c q (by simp),g1⟩,fun i hi => ?_,fun X i Y e p hp => ?_⟩
    · rcases List.mem_cons.1 hi with rfl | hi
      · exact h1
      · exact fun q => g2 i hi (by simp [q])
    · cases X with
      | nil =>
        simp only [List.nil_append,List.cons.injEq] at e
        obtain ⟨rfl,rfl⟩ := e
        exact .inr (h2 p hp)
      | cons x X =>
        simp only [List.cons_append,List.cons.injEq] at e
        obtain ⟨rfl,e⟩ := e
        rcases g3 X i Y e p hp with q | q
        · exact .inl (by simp [q])
        · rcases List.mem_cons.1 q with rfl | q
          · exact .inl (by simp)
          · exact .inr q
theorem sigs_mem {bef:Nat → List Nat}:∀ (s l:List Nat) (f:Nat),s.length ≤ f → s.Nodup → l.Nodup → (∀ i,i ∈ s ↔ i ∈ l) → (∀ X i Y,s = X ++ i :: Y → ∀ j,j ∈ bef i → j ∈ l → j ∈ X) → s ∈ sigsOf bef f l
  | [],l,f,_,_,_,hm,_ => by
    have:l = [] := by
      cases l with
      | nil => rfl
      | cons a l => exact absurd ((hm a).2 (by simp)) (by simp)
    subst this
    cases f <;> simp [sigsOf]
  | i :: s,l,0,hf,_,_,_,_ => by simp at hf
  | i :: s,[],f + 1,_,_,_,hm,_ => by exact absurd ((hm i).1 (by simp)) (by simp)
  | i :: s,a :: l,f + 1,hf,hs,hl,hm,hr => by
    have hil:i ∈ a :: l := (hm i).1 (by simp)
    have hs' := List.nodup_cons.1 hs
    simp only [sigsOf,List.mem_flatMap]
    refine ⟨i,hil,?_⟩
    have hall:(a :: l).all (fun j => !(bef i).contains j) = true := by
      simp only [List.all_eq_true,Bool.not_eq_true',List.contains_eq_mem,decide_eq_false_iff_not]
      intro j hj q
      have := hr [] i s rfl j q hj
      simp at this
    rw [if_pos hall,List.mem_map]
    refine ⟨s,sigs_mem s ((a :: l).erase i) f (by simpa using hf) hs'.2 (hl.erase i) (fun j => ?_) (fun X k Y e j hj hjl => ?_),rfl⟩
    · rw [hl.mem_erase_iff]
      have := hm j
      simp only [List.mem_cons] at this ⊢
      constructor
      · intro q
        exact ⟨by rintro rfl; exact hs'.1 q,this.1 (.inr q)⟩
      · rintro ⟨q1,q2⟩
        exact (this.2 q2).resolve_left q1
    · rw [hl.mem_erase_iff] at hjl
      have := hr (i :: X) k Y (by rw [e]; rfl) j hj hjl.2
      exact (List.mem_cons.1 this).resolve_left hjl.1
theorem split_unique {i:Nat}:∀ {A A' B B':List Nat},A ++ i :: B = A' ++ i :: B' → i ∉ A → i ∉ A' → A = A'
  | [],[],_,_,_,_,_ => rfl
  | [],a :: A',_,_,e,_,h => by simp at e; exact absurd (by simp [e.1]) h
  | a :: A,[],_,_,e,h,_ => by simp at e; exact absurd (by simp [e.1]) h
  | a :: A,a' :: A',B,B',e,h,h' => by
    simp only [List.cons_append,List.cons.injEq] at e
    obtain ⟨rfl,e⟩ := e
    rw [split_unique e (fun q => h (by simp [q])) (fun q => h' (by simp [q]))]
theorem takeWhile_ne {i:Nat}:∀ {A B:List Nat},i ∉ A → (A ++ i :: B).takeWhile (fun j => !(j == i)) = A
  | [],B,_ => by simp
  | a :: A,B,h => by
    have ha:a ≠ i := fun q => h (by simp [q])
    simp only [List.cons_append,List.takeWhile_cons]
    have:(!(a == i)) = true := by simpa using ha
    rw [this]
    simp only [if_true]
    rw [takeWhile_ne (fun q => h (by simp [q]))]
/-- What is ahead by steps is ahead. -/
theorem bef_mem {pre bef:Nat → List Nat} (hb:∀ i j,j ∈ bef i → ∃ p,p ∈ pre i ∧ (p = j ∨ j ∈ bef p)) {l:List Nat} (hr:Resp pre (fun _ => False) l):∀ (m:Nat) (X:List Nat) (i:Nat) (Y:List Nat),X.length ≤ m → l = X ++ i :: Y → ∀ j,j ∈ bef i → j ∈ X
  | m,X,i,Y,hm,e,j,hj => by
    obtain ⟨p,hp,q⟩ := hb i j hj
    have hpX:p ∈ X := (hr X i Y e p hp).elim (fun z => z) (fun z => z.elim)
    rcases q with rfl | q
    · exact hpX
    · obtain ⟨X1,X2,e1⟩ := List.append_of_mem hpX
      cases m with
      | zero => simp at hm; subst hm; simp at hpX
      | succ m =>
        have := bef_mem hb hr m X1 p (X2 ++ i :: Y) (by rw [e1] at hm; simp at hm; omega) (by rw [e,e1]; simp) j q
        rw [e1]; simp [this]
/-- A plan, looked over. -/
def planChk (n:Nat) (pr:Nat → List Nat) (cs:Nat → EG) (ord:List Nat) (re pc:Nat → List Nat):Option (List EI) :=
  if (List.range n).all (ord.contains ·) && chkP n pr cs re pc [] ord then some (ord.map (annI cs re)) else none
theorem planChk_ok {P:Program} {Q:Post} {n:Nat} {pre:Nat → List Nat} {cs:Nat → EG} {sig:List Nat} {ord:List Nat} {re pc:Nat → List Nat} {l:List EI}
    (h:planChk n (preS pre (fun i => (cs i).act.kind == 2) sig) cs ord re pc = some l) {t:Nat → V} {hp:List Ob} (w:wpI P Q l t hp)
    {s:List Nat} (hs:s.Nodup) (hm:∀ i,i ∈ s ↔ i < n) (hr:Resp pre (fun _ => False) s) (hsig:sig = s.filter fun i => (cs i).act.kind == 2):wpI P Q (s.map (annI cs fun _ => [])) t hp := by
  unfold planChk at h
  split at h
  · rename_i hc
    injection h with h; subst h
    simp only [Bool.and_eq_true,List.all_eq_true,List.mem_range,List.contains_eq_mem,decide_eq_true_eq] at hc
    obtain ⟨c1,c2⟩ := hc
    have sp := chkP_spec _ _ c2
    refine draw_list (n := n) (pre := preS pre (fun i => (cs i).act.kind == 2) sig) (re := re) (pc := pc) s ord (fun _ => False) t hp hs (fun i => ?_) (fun _ _ q => q) (fun _ q => q.elim) ?_ (fun A i B e => ?_) w
    · rw [hm]
      refine ⟨c1 i,fun q => ?_⟩
      obtain ⟨A,B,e⟩ := List.append_of_mem q
      exact (sp A i B e).2.1.lt
    · intro X i Y e p hp
      rcases List.mem_append.1 hp with q | q
      · exact hr X i Y e p q
      · left
        split at q
        · rename_i hlo
          have hiX:i ∉ X := by
            rw [e] at hs
            exact fun z => (List.nodup_append.1 hs).2.2 i z i (by simp) rfl
          have:sig = X.filter (fun i => (cs i).act.kind == 2) ++ i :: Y.filter (fun i => (cs i).act.kind == 2) := by
            rw [hsig,e,List.filter_append,List.filter_cons,if_pos hlo]
          rw [this,takeWhile_ne (fun z => hiX (List.mem_filter.1 z).1)] at q
          exact (List.mem_filter.1 q).1
        · simp at q
    · obtain ⟨g1,g2,g3⟩ := sp A i B e
      have key:∀ j,(j ∈ A ∨ j ∈ ([]:List Nat)) → (j ∈ A ∨ False) := fun j q => q.elim .inl (fun z => by simp at z)
      exact ⟨g1.1,⟨g2.lt,fun p hp => key p (g2.pre p hp),fun j hj => ⟨key j (g2.pcs j hj).1,(g2.pcs j hj).2⟩,g2.quiet,fun r hr => key r (g2.res r hr)⟩,fun a ha => g3 a (.inl ha)⟩
  · cases h
/-- The plan for one order of what acts. -/
def planOne (n:Nat) (pre:Nat → List Nat) (cs:Nat → EG) (sig:List Nat):Option (List EI) :=
  let pr := preS pre (fun i => (cs i).act.kind == 2) sig
  let ord := planOrdP pr (fun i => (cs i).act.kind < 2) n (List.range n) []
  let pcl := planPcP pr ord
  let pc := fun i => (pcl.lookup i).getD []
  let rel := planReP pc (fun i => (cs i).act.kind) [] ord
  planChk n pr cs ord (fun i => (rel.lookup i).getD []) pc
theorem planOne_ok {P:Program} {Q:Post} {n:Nat} {pre:Nat → List Nat} {cs:Nat → EG} {sig:List Nat} {l:List EI} (h:planOne n pre cs sig = some l) {t:Nat → V} {hp:List Ob} (w:wpI P Q l t hp)
    {s:List Nat} (hs:s.Nodup) (hm:∀ i,i ∈ s ↔ i < n) (hr:Resp pre (fun _ => False) s) (hsig:sig = s.filter fun i => (cs i).act.kind == 2):wpI P Q (s.map (annI cs fun _ => [])) t hp :=
  planChk_ok h w hs hm hr hsig
def compDraws (P:Program) (n:Nat) (ops:Array Oper):Option (List (List EI)) :=
  match mapAll (compG P n ops) ops.toList with
  | none => none
  | some gs =>
    let cs := fun i => gs.getD i default
    let pre := preOf ops
    let ord := planOrdP pre (fun _ => true) ops.size (List.range ops.size) []
    let bl := planPcP pre ord
    let bef := fun i => (bl.lookup i).getD []
    let louds := (List.range ops.size).filter fun i => (cs i).act.kind == 2
    let sigs := sigsOf bef louds.length louds
    if P.follows .mixedOrders && (decide (ord.length ≤ ops.size) && (ord.all (fun i => decide (i < ops.size)) && ((List.range ops.size).all (ord.contains ·) && (topoB pre [] ord &&
        (bl.all (fun p => p.2.all fun j => (pre p.1).any fun q => q == j || (bef q).contains j) && decide (sigs.length ≤ 24)))))) then
      mapAll (planOne ops.size pre cs) sigs
    else none
theorem compI_all' {P:Program} {n:Nat} {ops:Array Oper} {gs:List EG} (h:mapAll (compG P n ops) ops.toList = some gs):∀ is:List Nat,(∀ i,i ∈ is → i < ops.size) →
    compI P n ops is = some (is.map (annI (fun i => gs.getD i default) fun _ => []))
  | [],_ => rfl
  | i :: is,hi => by
    obtain ⟨g1,g2⟩ := mapAll_get h
    have hlt := hi i (by simp)
    have hg':i < gs.length := by simpa [g1] using hlt
    have hg:gs[i]? = some gs[i] := List.getElem?_eq_getElem hg'
    obtain ⟨o,q1,q2⟩ := g2 i _ hg
    have ho:ops[i]? = some o := by simpa using q1
    simp only [compI,ho,q2]
    rw [compI_all' h is (fun j hj => hi j (by simp [hj]))]
    simp only [List.map_cons,annI,List.map_nil,List.getD_eq_getElem?_getD,hg,Option.getD_some]
theorem mapAll_mem {α β : Type} {f : α → Option β}:∀ {xs:List α} {ys:List β},mapAll f xs = some ys → ∀ x,x ∈ xs → ∃ y,y ∈ ys ∧ f x = some y
  | [],_,_,x,hx => by simp at hx
  | a :: xs,ys,h,x,hx => by
    simp only [mapAll] at h
    split at h
    · rename_i y ys' h1 h2
      injection h with h; subst h
      rcases List.mem_cons.1 hx with rfl | hx
      · exact ⟨y,by simp,h1⟩
      · obtain ⟨z,g1,g2⟩ := mapAll_mem h2 x hx
        exact ⟨z,by simp [g1],g2⟩
    · cases h
theorem lookup_mem' {l:List (Nat × List Nat)} {i j:Nat} (h:j ∈ (l.lookup i).getD []):∃ p,p ∈ l ∧ p.1 = i ∧ j ∈ p.2 := by
  induction l with
  | nil => simp at h
  | cons p l ih =>
    obtain ⟨a,b⟩ := p
    rw [List.lookup_cons] at h
    split at h
    · rename_i q
      have:i = a := by simpa using q
      exact ⟨(a,b),by simp,this.symm,by simpa using h⟩
    · obtain ⟨p,g1,g2⟩ := ih h
      exact ⟨p,by simp [g1],g2⟩
theorem draws_core {P:Program} {Q:Post} {n:Nat} {ops:Array Oper} {cs:Nat → EG} {ord:List Nat} {bl:List (Nat × List Nat)} {ls:List (List EI)}
    (hI:∀ is:List Nat,(∀ i,i ∈ is → i < ops.size) → compI P n ops is = some (is.map (annI cs fun _ => []))) (c1:P.follows .mixedOrders = true) (c2:ord.length ≤ ops.size) (c3:∀ i,i ∈ ord → i < ops.size) (c4:∀ i,i < ops.size → i ∈ ord)
    (c5:topoB (preOf ops) [] ord = true) (c6:∀ p,p ∈ bl → ∀ j,j ∈ p.2 → ∃ q,q ∈ preOf ops p.1 ∧ (q = j ∨ j ∈ (bl.lookup q).getD []))
    (h:mapAll (planOne ops.size (preOf ops) cs) (sigsOf (fun i => (bl.lookup i).getD []) ((List.range ops.size).filter fun i => (cs i).act.kind == 2).length ((List.range ops.size).filter fun i => (cs i).act.kind == 2)) = some ls)
    {t:Nat → V} {hp:List Ob} (w:∀ l,l ∈ ls → wpI P Q l t hp) (tk:Nat):∃ l',compI P n ops (Region.schedule (P.follows .mixedOrders) ops tk) = some l' ∧ wpI P Q l' t hp := by
  obtain ⟨t1,_,t3⟩ := topoB_spec _ _ c5
  have hsch:Region.schedule (P.follows .mixedOrders) ops tk = goR .any ops ops.size tk (Array.replicate ops.size false) := by
    unfold Region.schedule Region.linearise
    rw [c1]
    simp only [Bool.true_or,if_true,go_eq,List.reverse_nil,List.nil_append]
  rw [hsch]
  have hrep:∀ i,(Array.replicate ops.size false).getD i false = false := by
    intro i
    rw [Array.getD_eq_getD_getElem?,Array.getElem?_replicate]
    split <;> rfl
  obtain ⟨g1,g2,g3⟩ := goR_spec (ops := ops) ops.size tk (Array.replicate ops.size false) ord c2 (by simp) (fun i => ⟨fun q => ⟨c3 i q,hrep i⟩,fun q => c4 i q.1⟩) t1 (fun X i Y e p hp => (t3 X i Y e p hp).elim .inl (fun q => by simp at q))
  generalize goR .any ops ops.size tk (Array.replicate ops.size false) = s at g1 g2 g3 ⊢
  have hm:∀ i,i ∈ s ↔ i < ops.size := fun i => by rw [g2]; exact ⟨c3 i,c4 i⟩
  have hr:Resp (preOf ops) (fun _ => False) s := fun X i Y e p hp => (g3 X i Y e p hp).elim .inl (fun q => by
    replace q:(Array.replicate ops.size false).getD p false = true := q
    rw [hrep] at q; cases q)
  have hb:∀ i j,j ∈ (bl.lookup i).getD [] → ∃ p,p ∈ preOf ops i ∧ (p = j ∨ j ∈ (bl.lookup p).getD []) := by
    intro i j hj
    obtain ⟨p,p1,p2,p3⟩ := lookup_mem' hj
    obtain ⟨q,q1,q2⟩ := c6 p p1 j p3
    rw [p2] at q1
    exact ⟨q,q1,q2⟩
  generalize hlo:(fun i => (cs i).act.kind == 2) = lo at h
  have hsig:s.filter lo ∈ sigsOf (fun i => (bl.lookup i).getD []) ((List.range ops.size).filter lo).length ((List.range ops.size).filter lo) := by
    have hnr:((List.range ops.size).filter lo).Nodup := List.nodup_range.filter _
    have hmm:∀ i,i ∈ s.filter lo ↔ i ∈ (List.range ops.size).filter lo := fun i => by
      simp only [List.mem_filter,List.mem_range,hm]
    refine sigs_mem _ _ _ ?_ (g1.filter _) hnr hmm (fun X i Y e j hj hjl => ?_)
    · have hp := (List.perm_ext_iff_of_nodup (g1.filter lo) hnr).2 hmm
      exact Nat.le_of_eq hp.length_eq
    · have hmi:i ∈ s.filter lo := by rw [e]; simp
      obtain ⟨his,hlo'⟩ := List.mem_filter.1 hmi
      obtain ⟨A,B,eA⟩ := List.append_of_mem his
      have hiA:i ∉ A := by
        rw [eA] at g1
        exact fun z => (List.nodup_append.1 g1).2.2 i z i (by simp) rfl
      have hjA := bef_mem hb hr A.length A i B (Nat.le_refl _) eA j hj
      have hiX:i ∉ X := by
        have := g1.filter lo
        rw [e] at this
        exact fun z => (List.nodup_append.1 this).2.2 i z i (by simp) rfl
      have e2:s.filter lo = A.filter lo ++ i :: B.filter lo := by
        rw [eA,List.filter_append,List.filter_cons,if_pos hlo']
      rw [e2] at e
      rw [← split_unique e (fun z => hiA (List.mem_filter.1 z).1) hiX]
      exact List.mem_filter.2 ⟨hjA,(List.mem_filter.1 hjl).2⟩
  obtain ⟨l,l1,l2⟩ := mapAll_mem h _ hsig
  exact ⟨_,hI _ (fun i hi => (hm i).1 hi),planOne_ok l2 (w l l1) g1 hm hr (by rw [hlo])⟩
theorem compDraws_sound {P:Program} {n:Nat} {ops:Array Oper} {ls:List (List EI)} (h:compDraws P n ops = some ls) {Q:Post} {t:Nat → V} {hp:List Ob} (w:∀ l,l ∈ ls → wpI P Q l t hp) (tk:Nat) :
    ∃ l',compI P n ops (Region.schedule (P.follows .mixedOrders) ops tk) = some l' ∧ wpI P Q l' t hp := by
  unfold compDraws at h
  split at h
  · cases h
  · rename_i gs hgs
    simp only at h
    split at h
    · rename_i hc
      have hI := compI_all' hgs
      generalize planOrdP (preOf ops) (fun _ => true) ops.size (List.range ops.size) [] = ord at h hc
      generalize planPcP (preOf ops) ord = bl at h hc
      rw [Bool.and_eq_true] at hc; obtain ⟨c1,hc⟩ := hc
      rw [Bool.and_eq_true] at hc; obtain ⟨c2,hc⟩ := hc
      rw [Bool.and_eq_true] at hc; obtain ⟨c3,hc⟩ := hc
      rw [Bool.and_eq_true] at hc; obtain ⟨c4,hc⟩ := hc
      rw [Bool.and_eq_true] at hc; obtain ⟨c5,hc⟩ := hc
      rw [Bool.and_eq_true] at hc; obtain ⟨c6,hc⟩ := hc
      refine draws_core (cs := fun i => gs.getD i default) hI c1 (of_decide_eq_true c2) (fun i hi => ?_) (fun i hi => ?_) c5 (fun p hp j hj => ?_) h w tk
      · exact of_decide_eq_true (List.all_eq_true.1 c3 i hi)
      · have := List.all_eq_true.1 c4 i (List.mem_range.2 hi)
        simpa using this
      · have := List.all_eq_true.1 (List.all_eq_true.1 c6 p hp) j hj
        obtain ⟨q,q1,q2⟩ := List.any_eq_true.1 this
        refine ⟨q,q1,?_⟩
        rw [Bool.or_eq_true] at q2
        rcases q2 with q2 | q2
        · exact .inl (by simpa using q2)
        · exact .inr (by simpa using q2)
    · cases h
end Go.Proofs.YtjpjeilfmjdhcaaDoor.E
/- The layer E, part 22: a function's whole code; a call of it. No condition. -/
namespace Go.Proofs.YtjpjeilfmjdhcaaDoor.E
set_option linter.unusedSimpArgs false
set_option linter.unusedVariables false
def planPc (ops:Array Oper):List (List Nat) :=
  (List.range ops.size).foldl (fun acc i => acc ++ [((preOf ops i).flatMap fun p => p :: acc.getD p []).eraseDups]) []
def planOrd (ops:Array Oper) (quiet:Nat → Bool):Nat → List Nat → List Nat → List Nat
  | 0,_,done => done.reverse
  | fuel + 1,left,done =>
    let ready := left.filter fun i => (preOf ops i).all (done.contains ·)
    match ready.find? quiet with
    | some i => planOrd ops quiet fuel (left.erase i) (i :: done)
    | none => match ready with
      | i :: _ => planOrd ops quiet fuel (left.erase i) (i :: done)
      | [] => done.reverse
def planRe (pc:Nat → List Nat) (kind:Nat → Nat):List Nat → List Nat → List (Nat × List Nat)
  | _,[] => []
  | seen,i :: rest => (i,if kind i == 2 then (seen.filter fun a => kind a == 1 && !(pc i).contains a) else []) :: planRe pc kind (i :: seen) rest
def compDraw (P:Program) (n:Nat) (ops:Array Oper):Option (List EI) :=
  match mapAll (compG P n ops) ops.toList with
  | none => none
  | some gs =>
    let pcl := planPc ops
    let ord := planOrd ops (fun i => (gs.getD i default).act.kind < 2) ops.size (List.range ops.size) []
    let rel := planRe (fun i => pcl.getD i []) (fun i => (gs.getD i default).act.kind) [] ord
    if P.follows .mixedOrders && ((List.range ops.size).all (ord.contains ·) && (decide (ord.length ≤ ops.size) && chk ops (fun i => gs.getD i default) (fun i => (rel.lookup i).getD []) (fun i => pcl.getD i []) [] ord)) then
      some (ord.map (annI (fun i => gs.getD i default) fun i => (rel.lookup i).getD []))
    else none
theorem compI_all {P:Program} {n:Nat} {ops:Array Oper} {gs:List EG} (h:mapAll (compG P n ops) ops.toList = some gs):∀ is:List Nat,(∀ i,i ∈ is → i < ops.size) →
    compI P n ops is = some (is.map (annI (fun i => gs.getD i default) fun _ => []))
  | [],_ => rfl
  | i :: is,hi => by
    obtain ⟨g1,g2⟩ := mapAll_get h
    have hlt := hi i (by simp)
    have hg':i < gs.length := by simpa [g1] using hlt
    have hg:gs[i]? = some gs[i] := List.getElem?_eq_getElem hg'
    obtain ⟨o,q1,q2⟩ := g2 i _ hg
    have ho:ops[i]? = some o := by simpa using q1
    simp only [compI,ho,q2]
    rw [compI_all h is (fun j hj => hi j (by simp [hj]))]
    simp only [List.map_cons,annI,List.map_nil,List.getD_eq_getElem?_getD,hg,Option.getD_some]
theorem goR_lt {m:Region.Mode} {ops:Array Oper}:∀ (fuel tk:Nat) (listed:Array Bool),∀ i,i ∈ goR m ops fuel tk listed → i < ops.size
  | 0,_,_,i,h => by simp [goR] at h
  | fuel + 1,tk,listed,i,h => by
    simp only [goR] at h
    split at h
    · rename_i j hj
      have := List.mem_of_getElem? hj
      rw [List.mem_filter,List.mem_range] at this
      rcases List.mem_cons.1 h with q | q
      · subst q; exact this.1
      · exact goR_lt fuel _ _ i q
    · simp at h
theorem draw_ok {P:Program} {n:Nat} {ops:Array Oper} {gs:List EG} (hgs:mapAll (compG P n ops) ops.toList = some gs) {re pc:Nat → List Nat} {ord:List Nat} (c1:P.follows .mixedOrders = true)
    (c2:∀ x,x < ops.size → x ∈ ord) (c4:ord.length ≤ ops.size) (c3:chk ops (fun i => gs.getD i default) re pc [] ord = true) {Q:Post} {t:Nat → V} {hp:List Ob} (w:wpI P Q (ord.map (annI (fun i => gs.getD i default) re)) t hp) (tk:Nat) :
    ∃ l',compI P n ops (Region.schedule (P.follows .mixedOrders) ops tk) = some l' ∧ wpI P Q l' t hp := by
  have hs := chk_spec _ _ c3
  have hsch:Region.schedule (P.follows .mixedOrders) ops tk = goR .any ops ops.size tk (Array.replicate ops.size false) := by
    unfold Region.schedule Region.linearise
    rw [c1]
    simp only [Bool.true_or,if_true,go_eq,List.reverse_nil,List.nil_append]
  rw [hsch]
  have hrep:∀ i,(Array.replicate ops.size false).getD i false = false := by
    intro i
    rw [Array.getD_eq_getD_getElem?,Array.getElem?_replicate]
    split <;> rfl
  have hv:Vd ops (fun i => gs.getD i default) re pc (fun i => (Array.replicate ops.size false).getD i false = true) ord := by
    intro A i B e
    obtain ⟨g1,g2,g3⟩ := hs A i B e
    have key:∀ j,(j ∈ A ∨ j ∈ ([]:List Nat)) → (j ∈ A ∨ (Array.replicate ops.size false).getD j false = true) := fun j q => q.elim .inl (fun z => by simp at z)
    exact ⟨g1.1,⟨g2.lt,fun p hp => key p (g2.pre p hp),fun j hj => ⟨key j (g2.pcs j hj).1,(g2.pcs j hj).2⟩,g2.quiet,fun r hr => key r (g2.res r hr)⟩,fun a ha => g3 a (.inl ha)⟩
  have hmem:∀ i,i ∈ ord → i < ops.size := fun i hi => by
    obtain ⟨A,B,e⟩ := List.append_of_mem hi
    exact (hs A i B e).2.1.lt
  exact ⟨_,compI_all hgs _ (goR_lt _ _ _),draw_main ops.size tk _ ord t hp c4 (by simp) (fun i => ⟨fun q => ⟨hmem i q,hrep i⟩,fun q => c2 i q.1⟩) (fun i q => by rw [hrep] at q; cases q) hv w⟩
theorem compDraw_sound {P:Program} {n:Nat} {ops:Array Oper} {l:List EI} (h:compDraw P n ops = some l) {Q:Post} {t:Nat → V} {hp:List Ob} (w:wpI P Q l t hp) (tk:Nat) :
    ∃ l',compI P n ops (Region.schedule (P.follows .mixedOrders) ops tk) = some l' ∧ wpI P Q l' t hp := by
  unfold compDraw at h
  split at h
  · cases h
  · rename_i gs hgs
    simp only at h
    split at h
    · rename_i hc
      injection h with h; subst h
      simp only [Bool.and_eq_true,List.all_eq_true,List.mem_range,List.contains_eq_mem,decide_eq_true_eq] at hc
      obtain ⟨c1,c2,c4,c3⟩ := hc
      exact draw_ok hgs c1 c2 c4 c3 w tk
    · cases h
theorem mapAll_get' {α β : Type} {f : α → Option β}:∀ {xs:List α} {ys:List β},mapAll f xs = some ys → ∀ (i:Nat) (hi:i < xs.length),∃ y,y ∈ ys ∧ f xs[i] = some y
  | [],ys,h,i,hi => by simp at hi
  | x :: xs,ys,h,i,hi => by
    simp only [mapAll] at h
    split at h
    · rename_i y ys' h1 h2
      injection h with h; subst h
      cases i with
      | zero => exact ⟨y,by simp,h1⟩
      | succ i =>
        obtain ⟨y',g1,g2⟩ := mapAll_get' h2 i (by simpa using hi)
        exact ⟨y',by simp [g1],by simpa using g2⟩
    · cases h
/-- What isn't covered: it must not be reached. -/
def badC:EC := .reg [⟨none,none,.bad,[]⟩]
def comp (P:Program) (n:Nat):Code → Option EC
  | .skip => some .skip
  | .region _ ops false => match compI P n ops (List.range ops.size) with
    | some l => some (.reg l)
    | none => some badC
  | .region _ ops true => match compDraw P n ops with
    | some l => some (.reg l)
    | none => match compDraws P n ops with
      | some ls => some (.draw ls)
      | none => if ops.size ≤ 8 then (mapAll (compI P n ops) (ordersOf P ops)).map .draw else some badC
  | .seq a b => match comp P n a,comp P n b with
    | some a,some b => some (.seq a b)
    | _,_ => none
  | .cond c a b => match cOpd n c,comp P n a,comp P n b with
    | some c,some a,some b => some (.cond c a b)
    | _,_,_ => none
  | .block id b => (comp P n b).map (.block id)
  | .loop b => (comp P n b).map .loop
  | .exit id => some (.exit id)
  | .ret => some .ret
  | _ => some badC
theorem badC_no {P:Program} {Q:Post} {t:Nat → V} {h:List Ob} (w:wpC P badC Q t h):False := w
/-- What 'up' of a sequence's post comes to. -/
theorem up_then {n:Nat} {Q:Post} {next:(Nat → V) → List Ob → Prop} {L:Loc} {w:World} {e:Exit} {a:Act} {w':World} {N:Act → World → Prop} {R:Exit → Act → World → Prop}
    (u:up n (thenQ next Q) L w e a w') (hn:∀ t h L',next t h → TRel L' w' n t a.tmps → a.defers = [] → HRel L' h w' → Fr (Own L) w w' → Ext L w L' → N a w')
    (hr:e ≠ .normal → up n Q L w e a w' → R e a w'):Exit.then N R e a w' := by
  obtain ⟨x,t',h',L',rfl,h2,h3,h4,h5,h6,h7⟩ := u
  cases x with
  | normal => exact hn t' h' L' h2 h3 h4 h5 h6 h7
  | exit id => exact hr (by simp [EX.up]) ⟨.exit id,t',h',L',rfl,h2,h3,h4,h5,h6,h7⟩
  | ret => exact hr (by simp [EX.up]) ⟨.ret,t',h',L',rfl,h2,h3,h4,h5,h6,h7⟩
def WP (P:Program) (n:Nat) (c:Code) (Q:Post) (t:Nat → V) (h:List Ob):Prop :=
  ∀ L w a,TRel L w n t a.tmps → a.defers = [] → HRel L h w → c.wp P (up n Q L w) a w
theorem wpC_loop {P:Program} {n:Nat} {c:Code} {Q:Post} (I:Nat → (Nat → V) → List Ob → Prop)
    (round:∀ m t h,I m t h → WP P n c (thenQ (fun t' h' => ∃ m',m' < m ∧ I m' t' h') Q) t h) {m:Nat} {t:Nat → V} {h:List Ob} (h0:I m t h):WP P n (.loop c) Q t h := by
  intro L w a r hd H b k cs
  have key:∀ m t h,I m t h → ∀ L w a,TRel L w n t a.tmps → a.defers = [] → HRel L h w →
      ∃ e a' w',up n Q L w e a' w' ∧ Arrives P (lone (b.at a (.code c :: .inLoop c :: k)) cs w) b k cs e a' w' := by
    intro m
    induction m using Nat.strongRecOn with
    | _ m ih =>
      intro t h hI L w a r hd H
      obtain ⟨e,a₁,w₁,hq,harr⟩ := round m t h hI L w a r hd H b (.inLoop c :: k) cs
      obtain ⟨x,t',h',L',rfl,h2,h3,h4,h5,h6,h7⟩ := hq
      cases x with
      | normal =>
        obtain ⟨m',hlt,hI'⟩ := h2
        obtain ⟨e₂,a₂,w₂,hq₂,harr₂⟩ := ih m' hlt t' h' hI' L' w₁ a₁ h3 h4 h5
        exact ⟨e₂,a₂,w₂,up_trans h6 h7 hq₂,.of_steps (Steps.trans harr (.one step_inLoop)) harr₂⟩
      | exit id => exact ⟨_,a₁,w₁,⟨.exit id,t',h',L',rfl,h2,h3,h4,h5,h6,h7⟩,.pass (x := .inLoop c) rfl (fun _ _ => .inl (by simp [EX.up])) harr⟩
      | ret => exact ⟨_,a₁,w₁,⟨.ret,t',h',L',rfl,h2,h3,h4,h5,h6,h7⟩,.pass (x := .inLoop c) rfl (fun _ _ => .inl (by simp [EX.up])) harr⟩
  obtain ⟨e,a',w',hq,harr⟩ := key m t h h0 L w a r hd H
  exact ⟨e,a',w',hq,.of_steps (.one step_loop) harr⟩
theorem comp_sound {P:Program} {n:Nat}:∀ (c:Code) (x:EC),comp P n c = some x → ∀ (Q:Post) (t:Nat → V) (h:List Ob),wpC P x Q t h → WP P n c Q t h := by
  intro c
  induction c with
  | skip =>
    intro x hc Q t h hq L w a r hd H
    simp only [comp,Option.some.injEq] at hc
    subst hc
    exact wp_skip ⟨.normal,t,h,L,rfl,hq,r,hd,H,Fr.refl _ _,Ext.refl _ _⟩
  | region id ops draw =>
    intro x hc Q t h hq L w a r hd H
    cases draw with
    | false =>
      simp only [comp] at hc
      split at hc
      · rename_i l h1
        injection hc with hc; subst hc
        exact wp_region (wpI_sound _ l h1 t h hq L w a r hd H _ (fun _ _ _ u => u))
      · injection hc with hc; subst hc; exact (badC_no hq).elim
    | true =>
      have fr := fr_drew (Own L) w
      have ex := Ext.refl L w
      simp only [comp] at hc
      split at hc
      · rename_i l hl
        injection hc with hc; subst hc
        refine wp_region_draw (fun tk => ?_)
        obtain ⟨l',e1,e2⟩ := compDraw_sound hl hq tk
        exact wpI_sound _ l' e1 t h e2 L { w with drawn := w.drawn + 1 } a (r.step H fr ex) hd H.drew _ (fun _ _ _ u => up_trans fr ex u)
      · split at hc
        · rename_i ls hls
          injection hc with hc; subst hc
          refine wp_region_draw (fun tk => ?_)
          obtain ⟨l',e1,e2⟩ := compDraws_sound hls hq tk
          exact wpI_sound _ l' e1 t h e2 L { w with drawn := w.drawn + 1 } a (r.step H fr ex) hd H.drew _ (fun _ _ _ u => up_trans fr ex u)
        · split at hc
          · simp only [Option.map_eq_some_iff] at hc
            obtain ⟨ls,h1,rfl⟩ := hc
            refine wp_region_draw (fun tk => ?_)
            have hm := schedule_mem P ops tk
            obtain ⟨i,hlt,hi⟩ := List.mem_iff_getElem.1 hm
            obtain ⟨y,g3,g4⟩ := mapAll_get' h1 i hlt
            rw [← hi]
            exact wpI_sound _ y g4 t h (hq y g3) L { w with drawn := w.drawn + 1 } a (r.step H fr ex) hd H.drew _ (fun _ _ _ u => up_trans fr ex u)
          · injection hc with hc; subst hc; exact (badC_no hq).elim
  | seq c1 c2 ih1 ih2 =>
    intro x hc Q t h hq L w a r hd H
    simp only [comp] at hc
    split at hc
    · rename_i x1 x2 h1 h2
      injection hc with hc; subst hc
      refine wp_seq (wp_mono (ih1 x1 h1 _ t h hq L w a r hd H) (fun e a' w' u => ?_))
      exact up_then u (fun t' h' L' hn r' hd' H' fr ex => wp_mono (ih2 x2 h2 Q t' h' hn L' w' a' r' hd' H') (fun _ _ _ u' => up_trans fr ex u')) (fun _ u' => u')
    · cases hc
  | cond c c1 c2 ih1 ih2 =>
    intro x hc Q t h hq L w a r hd H
    simp only [comp] at hc
    split at hc
    · rename_i o x1 x2 h0 h1 h2
      injection hc with hc; subst hc
      have rc := cOpd_rep r h0
      simp only [wpC] at hq
      split at hq
      · rename_i q
        rw [q] at rc
        refine wp_cond_true ?_ (ih1 x1 h1 _ t h hq L w a r hd H)
        generalize a.eval c = z at rc
        cases rc; rfl
      · rename_i q
        rw [q] at rc
        refine wp_cond_false ?_ (ih2 x2 h2 _ t h hq L w a r hd H)
        generalize a.eval c = z at rc
        cases rc; rfl
      · exact hq.elim
    · cases hc
  | block id c ih =>
    intro x hc Q t h hq L w a r hd H
    simp only [comp,Option.map_eq_some_iff] at hc
    obtain ⟨x1,h1,rfl⟩ := hc
    refine wp_block (wp_mono (ih x1 h1 _ t h hq L w a r hd H) (fun e a' w' u => ?_))
    obtain ⟨x,t',h',L',rfl,h2,rest⟩ := u
    cases x with
    | normal => exact ⟨.normal,t',h',L',rfl,h2,rest⟩
    | exit j =>
      simp only [blockQ] at h2
      simp only [EX.up,Exit.inBlock]
      split
      · rename_i hj; rw [if_pos hj] at h2; exact ⟨.normal,t',h',L',rfl,h2,rest⟩
      · rename_i hj; rw [if_neg hj] at h2; exact ⟨.exit j,t',h',L',rfl,h2,rest⟩
    | ret => exact ⟨.ret,t',h',L',rfl,h2,rest⟩
  | loop c ih =>
    intro x hc Q t h hq
    simp only [comp,Option.map_eq_some_iff] at hc
    obtain ⟨x1,h1,rfl⟩ := hc
    obtain ⟨I,⟨m,h0⟩,round⟩ := hq
    exact wpC_loop I (fun m t h hI => ih x1 h1 _ t h (round m t h hI)) h0
  | exit id =>
    intro x hc Q t h hq L w a r hd H
    simp only [comp,Option.some.injEq] at hc
    subst hc
    exact wp_exit ⟨.exit id,t,h,L,rfl,hq,r,hd,H,Fr.refl _ _,Ext.refl _ _⟩
  | ret =>
    intro x hc Q t h hq L w a r hd H
    simp only [comp,Option.some.injEq] at hc
    subst hc
    exact wp_ret ⟨.ret,t,h,L,rfl,hq,r,hd,H,Fr.refl _ _,Ext.refl _ _⟩
  | rangeFunc => intro x hc Q t h hq; simp only [comp,Option.some.injEq] at hc; subst hc; exact (badC_no hq).elim
  | scope => intro x hc Q t h hq; simp only [comp,Option.some.injEq] at hc; subst hc; exact (badC_no hq).elim
  | label => intro x hc Q t h hq; simp only [comp,Option.some.injEq] at hc; subst hc; exact (badC_no hq).elim
  | goto => intro x hc Q t h hq; simp only [comp,Option.some.injEq] at hc; subst hc; exact (badC_no hq).elim
  | refuse => intro x hc Q t h hq; simp only [comp,Option.some.injEq] at hc; subst hc; exact (badC_no hq).elim
/-! ### A function -/
inductive ERs where
  | t (i:Nat)
  | l1 (i:Nat)
  | ln (n i:Nat)
  deriving Inhabited,Repr
def ERs.ev (t:Nat → V) (h:List Ob):ERs → Option V
  | .t i => some (t i)
  | .l1 i => evLoad1 h (t i)
  | .ln n i => evLoadN h n (t i)
structure EFn where
  n:Nat
  res:List ERs
  code:EC
  deriving Inhabited,Repr
def compRes (P:Program) (n:Nat):ResultVar → Option ERs
  | .tmp t => if t < n then some (.t t) else none
  | .cell a t => if a < n then match P.info? t,P.underlying t with
      | some i,some _ => if isStruct P t then some (.ln i.size a) else some (.l1 a)
      | _,_ => none
    else none
def compF (P:Program) (fn:Func):Option EFn := match fn.body with
  | none => none
  | some c => match comp P fn.ntmps c,mapAll (compRes P fn.ntmps) fn.results.toList with
    | some x,some rs => some ⟨fn.ntmps,rs,x⟩
    | _,_ => none
def env0 (args:List V):Nat → V := fun i => args.getD i (.tup [])
def resK (rs:List ERs) (t:Nat → V) (h:List Ob) (K:V → Prop):Prop := match mapAll (ERs.ev t h) rs with
  | none => False
  | some [v] => K v
  | some vs => K (.tup vs)
def ResFn (P:Program) (tm:Array Value) (g:ResultVar → Sem Value):Prop :=
  (∀ t,g (.tmp t) = pure (tm.getD t undef)) ∧ ∀ a t,g (.cell a t) = (do loadVar t (← asAddr (tm.getD a undef)))
theorem run_loadVar1 {P:Program} {L:Loc} {w:World} {h:List Ob} (H:HRel L h w) {t:TypeId} {v c:V} {x:Value} (hu:(P.underlying t).isSome = true) (hs:isStruct P t = false) (r:Rep L w v x) (he:evLoad1 h v = some c) :
    ∃ y,(do loadVar t (← asAddr x):Sem Value).run P w = .ok y w ∧ Rep L w c y := by
  unfold evLoad1 at he
  split at he
  · rename_i c' hc
    injection he with he; subst he
    obtain ⟨b,o,rfl,_,f,h1,h2⟩ := rdCells_spec H r hc
    refine ⟨f 0,?_,h2 0 _ rfl⟩
    have := h1 0 (by omega)
    simp only [Nat.add_zero] at this
    simp only [asAddr,loadVar,Sem.run_bind,Sem.run_pure,Result.andThen_ok,run_isAgg w hu,hs,Bool.false_eq_true,if_false,run_load,this]
  · cases he
theorem run_loadVarN {P:Program} {L:Loc} {w:World} {h:List Ob} (H:HRel L h w) {t:TypeId} {i:TypeInfo} {v c:V} {x:Value} (hi:P.info? t = some i) (hu:(P.underlying t).isSome = true) (hs:isStruct P t = true) (r:Rep L w v x) (he:evLoadN h i.size v = some c) :
    ∃ y,(do loadVar t (← asAddr x):Sem Value).run P w = .ok y w ∧ Rep L w c y := by
  unfold evLoadN at he
  simp only [Option.map_eq_some_iff] at he
  obtain ⟨cs,hc,rfl⟩ := he
  obtain ⟨b,o,rfl,hl,f,h1,h2⟩ := rdCells_spec H r hc
  refine ⟨.agg ((List.range i.size).map f).toArray,?_,.agg _ (by simp [hl]) (fun k c hk => ?_)⟩
  · simp only [asAddr,loadVar,Sem.run_bind,Sem.run_pure,Result.andThen_ok,run_isAgg w hu,hs,if_true,run_sizeOf w hi,E.run_loadCells P w b o i.size f h1]
  · have hk':k < i.size := by rw [← hl]; exact (List.getElem?_eq_some_iff.1 hk).1
    have := h2 k c hk
    rw [Array.getD_eq_getD_getElem?]
    simp [hk']; exact this
theorem run_resList {L:Loc} {w:World} {h:List Ob} (H:HRel L h w) {P:Program} {n:Nat} {t:Nat → V} {tm:Array Value} (r:TRel L w n t tm) {g:ResultVar → Sem Value} (hg:ResFn P tm g) :
    ∀ (rs:List ResultVar) (ss:List ERs) (vs:List V),mapAll (compRes P n) rs = some ss → mapAll (ERs.ev t h) ss = some vs →
    ∃ us:List Value,(rs.mapM g).run P w = .ok us w ∧ us.length = vs.length ∧ ∀ (k:Nat) (v:V),vs[k]? = some v → Rep L w v (us.getD k undef)
  | [],ss,vs,h1,h2 => by
    simp [mapAll] at h1; subst h1
    simp [mapAll] at h2; subst h2
    exact ⟨[],by simp,rfl,fun k s hk => by simp at hk⟩
  | x :: rs,ss,vs,h1,h2 => by
    simp only [mapAll] at h1
    split at h1
    · rename_i s ss' q1 q2
      injection h1 with h1; subst h1
      simp only [mapAll] at h2
      split at h2
      · rename_i v vs' p1 p2
        injection h2 with h2; subst h2
        obtain ⟨us,g1,g2,g3⟩ := run_resList H r hg rs ss' vs' q2 p2
        have one:∃ y,(g x).run P w = .ok y w ∧ Rep L w v y := by
          cases x with
          | tmp j =>
            simp only [compRes] at q1
            split at q1
            · rename_i hj
              injection q1 with q1; subst q1
              simp only [ERs.ev,Option.some.injEq] at p1
              subst p1
              exact ⟨_,by rw [hg.1]; simp,r.2 j hj⟩
            · cases q1
          | cell j ty =>
            simp only [compRes] at q1
            split at q1
            · rename_i hj
              rw [hg.2]
              split at q1
              · rename_i i d hi hd
                have hu:(P.underlying ty).isSome = true := by rw [hd]; rfl
                split at q1
                · rename_i hs
                  injection q1 with q1; subst q1
                  exact run_loadVarN H hi hu hs (r.2 j hj) p1
                · rename_i hs
                  injection q1 with q1; subst q1
                  exact run_loadVar1 H hu (by simpa using hs) (r.2 j hj) p1
              · cases q1
            · cases q1
        obtain ⟨y,o1,o2⟩ := one
        refine ⟨y :: us,?_,by simp [g2],fun k s hk => ?_⟩
        · rw [List.mapM_cons]
          simp only [Sem.run_bind,Sem.run_pure,Result.andThen_ok,o1,g1]
        · cases k with
          | zero => simp at hk; subst hk; exact o2
          | succ k => simp at hk; exact g3 k s hk
      · cases h2
    · cases h1
theorem run_results {L:Loc} {w:World} {h:List Ob} (H:HRel L h w) {P:Program} {fn:Func} {t:Nat → V} {tm:Array Value} (r:TRel L w fn.ntmps t tm) {ss:List ERs} (hs:mapAll (compRes P fn.ntmps) fn.results.toList = some ss) {K:V → Prop} (hk:resK ss t h K) :
    ∃ v y,(results fn tm).run P w = .ok y w ∧ Rep L w v y ∧ K v := by
  suffices hs:∀ g:ResultVar → Sem Value,ResFn P tm g → ∃ v y,(do
      let vs ← fn.results.mapM g
      pure (if h:vs.size = 1 then vs[0] else .tuple vs):Sem Value).run P w = .ok y w ∧ Rep L w v y ∧ K v from hs _ ⟨fun _ => rfl,fun _ _ => rfl⟩
  intro g hg
  unfold resK at hk
  cases hv:mapAll (ERs.ev t h) ss with
  | none => rw [hv] at hk; exact hk.elim
  | some vs =>
  obtain ⟨us,g1,g2,g3⟩ := run_resList H r hg _ ss vs hs hv
  rw [Array.mapM_eq_mapM_toList,map_eq_pure_bind,bind_assoc]
  rw [Sem.run_bind]
  rw [g1]
  simp only [Result.andThen_ok,pure_bind]
  by_cases h1:us.length = 1
  · obtain ⟨u,rfl⟩ := List.length_eq_one_iff.1 h1
    obtain ⟨v,rfl⟩ := List.length_eq_one_iff.1 (g2.symm.trans h1)
    rw [hv] at hk
    exact ⟨v,u,by simp,g3 0 v rfl,hk⟩
  · have:¬ us.toArray.size = 1 := by simpa using h1
    simp only [dif_neg this,Sem.run_pure]
    refine ⟨.tup vs,_,rfl,.tup us.toArray (by simp [g2]) (fun k c hk => ?_),?_⟩
    · have := g3 k c hk
      simpa [Array.getD_eq_getD_getElem?,List.getD_eq_getElem?_getD] using this
    · rw [hv] at hk
      split at hk
      · exact hk.elim
      · rename_i v e; injection e with e; subst e; simp at g2; exact absurd g2 h1
      · rename_i vs' _ e; injection e with e; subst e; exact hk
theorem trel0 {L:Loc} {w:World} {args:List V} {xs:Array Value} (a:ARep L w args xs) {n:Nat} (h:args.length ≤ n) :
    TRel L w n (env0 args) (xs ++ Array.replicate (n - xs.size) undef) := by
  refine ⟨by simp [a.1]; omega,fun i hi => ?_⟩
  rw [Array.getD_eq_getD_getElem?,Array.getElem?_append,a.1]
  unfold env0
  split
  · rename_i q
    rw [List.getD_eq_getElem?_getD,List.getElem?_eq_getElem q,← Array.getD_eq_getD_getElem?]
    exact a.2 i _ (List.getElem?_eq_getElem q)
  · rename_i q
    rw [List.getD_eq_getElem?_getD,List.getElem?_eq_none (by omega)]
    have:(Array.replicate (n - args.length) undef)[i - args.length]? = some undef := by
      rw [Array.getElem?_replicate,if_pos (by omega)]
    rw [this]
    exact undef_rep
/-- What the body must bring. -/
def endQ (rs:List ERs) (R:V → List Ob → Prop):Post := fun x t h => match x with
  | .exit _ => False
  | _ => resK rs t h fun v => R v h
/-- A call comes to what the body's code brings. -/
theorem CE.of_body {P:Program} {f:FuncId} {fn:Func} {e:EFn} {args:List V} {h:List Ob} {R:V → List Ob → Prop} (hf:P.funcs[f]? = some fn) (hc:compF P fn = some e) (hn:args.length ≤ e.n)
    (hw:wpC P e.code (endQ e.res R) (env0 args) h):CE P f args h R := by
  unfold compF at hc
  split at hc
  · cases hc
  · rename_i c hb
    split at hc
    · rename_i x rs h1 h2
      injection hc with hc; subst hc
      intro L w xs a H
      refine calls_of_wp hf hb ?_
      refine wp_mono (comp_sound c x h1 _ (env0 args) h hw L w _ (trel0 a hn) rfl H) (fun e a' w' u => ?_)
      obtain ⟨x,t',h',L',rfl,q,g3,g4,g5,g6,g7⟩ := u
      cases x with
      | exit => exact q.elim
      | normal =>
        obtain ⟨v,y,p1,p2,p3⟩ := run_results g5 g3 h2 q
        exact ⟨g4,y,p1,y,v,h',L',rfl,p3,p2,g5,g6,g7⟩
      | ret =>
        obtain ⟨v,y,p1,p2,p3⟩ := run_results g5 g3 h2 q
        exact ⟨g4,y,p1,y,v,h',L',rfl,p3,p2,g5,g6,g7⟩
    · cases hc
end Go.Proofs.YtjpjeilfmjdhcaaDoor.E
/- The layer E, part 24: code run by evaluation; what that says. No condition. -/
namespace Go.Proofs.YtjpjeilfmjdhcaaDoor.E
set_option linter.unusedSimpArgs false
set_option linter.unusedVariables false
abbrev CallF := FuncId → List V → List Ob → Option (V × List Ob)
def evA (F:CallF) (x:EA) (t:Nat → V) (h:List Ob):Option (V × List Ob) := match x with
  | .op o => evOp o t h
  | .call f args => F f (args.map (·.get t)) h
  | .callv fv args => match fv.get t with
    | .fn f caps => F f (args.map (·.get t) ++ caps) h
    | _ => none
  | .nextM x => match evNextM h (x.get t) with
    | some [p] => some p
    | _ => none
  | .bad => none
def reckB (g:EG) (t:Nat → V) (h:List Ob):Bool := match g.dst with
  | some d => match evG g t h with
    | some v => V.beq v (t d)
    | none => false
  | none => false
def resE (rs:List ERs) (t:Nat → V) (h:List Ob):Option V := match mapAll (ERs.ev t h) rs with
  | none => none
  | some [v] => some v
  | some vs => some (.tup vs)
/-! ### What it says -/
theorem resK_of {rs:List ERs} {t:Nat → V} {h:List Ob} {v:V} (e:resE rs t h = some v) {K:V → Prop} (k:K v):resK rs t h K := by
  unfold resE at e
  unfold resK
  cases hm:mapAll (ERs.ev t h) rs with
  | none => rw [hm] at e; cases e
  | some vs =>
    rw [hm] at e
    match vs,e with
    | [],e => injection e with e; subst e; exact k
    | [u],e => injection e with e; subst e; exact k
    | u :: u' :: us,e => injection e with e; subst e; exact k
end Go.Proofs.YtjpjeilfmjdhcaaDoor.E
/- The layer E, part 25: from what a claim says of its input to the layer's values. No condition. -/
namespace Go.Proofs.YtjpjeilfmjdhcaaDoor.E
set_option linter.unusedSimpArgs false
set_option linter.unusedVariables false
def L0:Loc := ⟨fun _ => none,0⟩
theorem own0 (b:Nat):¬ Own L0 b := fun ⟨_,_,h⟩ => by cases h
theorem hrel0 (w:World):HRel L0 [] w := ⟨rfl,(fun id ob h => by simp at h),(fun id p h => by cases h),(fun id b bs s h => by cases h),(fun i j b p q h => by cases h),(fun id es sz n h => by simp at h)⟩
def isAggT (P:Program) (t:TypeId):Bool := match P.underlying t with
  | some (.struct _) | some (.array _ _) => true
  | _ => false
/-- One value of so many cells. -/
def elemV (P:Program) (e:TypeId) (cs:List V):V := match isAggT P e,cs with
  | false,[c] => c
  | _,cs => .agg cs
variable {H:Type}
mutual
def dV (P:Program):DataW H → TypeId → Option (List V)
  | .lit l,t => match P.underlying t,l with
    | some .bool,.bool b => some [.bool b]
    | some (.int k'),.int k n => if k = k' ∧ (Lit.int k n).wf = true then some [.int k n] else none
    | some .string,.string s => if s.length ≤ maxLen then some [.str s] else none
    | _,_ => none
  | .nil,t => match P.underlying t with
    | some (.pointer _) => some [.nilp]
    | some (.slice _) => some [.nils]
    | some (.map _ _) => some [.nilm]
    | _ => none
  | .ptr d,t => match P.underlying t with
    | some (.pointer e) => if 0 < P.cellsOf e then (match dV P d e with | some cs => some [.ref (elemV P e cs) 0] | none => none) else none
    | _ => none
  | .slice elems _,t => match P.underlying t with
    | some (.slice e) => if 0 < P.cellsOf e ∧ elems.length ≤ maxLen then (match dVs P elems e with | some es => some [.sl es] | none => none) else none
    | _ => none
  | .agg parts,t => match P.underlying t with
    | some (.struct fs) => dVf P parts fs.toList 0 (P.cellsOf t)
    | some (.array n e) => if n * P.cellsOf e = P.cellsOf t then dVa P parts e else none
    | _ => none
  | _,_ => none
def dVs (P:Program):List (DataW H) → TypeId → Option (List V)
  | [],_ => some []
  | d :: ds,e => match dV P d e,dVs P ds e with
    | some cs,some es => some (elemV P e cs :: es)
    | _,_ => none
def dVf (P:Program):List (DataW H) → List Field → Nat → Nat → Option (List V)
  | [],[],o,tot => if o = tot then some [] else none
  | d :: ds,f :: fs,o,tot => if f.offset = o then (match dV P d f.type,dVf P ds fs (o + P.cellsOf f.type) tot with
      | some a,some b => some (a ++ b)
      | _,_ => none) else none
  | _,_,_,_ => none
def dVa (P:Program):List (DataW H) → TypeId → Option (List V)
  | [],_ => some []
  | d :: ds,e => match dV P d e,dVa P ds e with
    | some a,some b => some (a ++ b)
    | _,_ => none
end
/-- What is said of cells. -/
structure WRep (w:World) (vs:List V) (cs:List Value):Prop where
  len:vs.length = cs.length
  sc:∀ v,v ∈ vs → v.scalar = true
  rep:∀ (k:Nat) v x,vs[k]? = some v → cs[k]? = some x → Rep L0 w v x
theorem WRep.nil {w:World}:WRep w [] [] := ⟨rfl,fun _ h => by simp at h,fun k v x h => by simp at h⟩
theorem WRep.one {w:World} {v:V} {x:Value} (h:Rep L0 w v x) (s:v.scalar = true):WRep w [v] [x] :=
  ⟨rfl,fun u hu => by simp at hu; subst hu; exact s,fun k u y h1 h2 => by
    cases k with
    | zero => simp at h1 h2; subst h1; subst h2; exact h
    | succ k => simp at h1⟩
theorem WRep.append {w:World} {vs us:List V} {cs ds:List Value} (h:WRep w vs cs) (g:WRep w us ds):WRep w (vs ++ us) (cs ++ ds) :=
  ⟨by simp [h.len,g.len],fun v hv => (List.mem_append.1 hv).elim (h.sc v) (g.sc v),fun k v x h1 h2 => by
    rw [List.getElem?_append] at h1 h2
    rw [h.len] at h1
    split at h1
    · rename_i q; rw [if_pos q] at h2; exact h.rep k v x h1 h2
    · rename_i q; rw [if_neg q] at h2; exact g.rep _ v x h1 h2⟩
theorem elemV_cells {P:Program} {e:TypeId} {cs:List V} (sc:∀ v,v ∈ cs → v.scalar = true):(elemV P e cs).cells = cs := by
  unfold elemV
  split
  · rename_i c _
    have := sc c (by simp)
    cases c <;> first | rfl | (simp [V.scalar] at this)
  · rfl
theorem row_of {w:World} {a:Addr} {n:Nat} {cs:List Value} (h:w.cells? 0 a n = some cs) (hn:0 < n):a.spot = none ∧ a.block < w.heap.size ∧ cs.length = n ∧ ∀ j,j < n → w.cell? ⟨a.block,a.off + j,none⟩ = cs[j]? := by
  obtain ⟨_,hl,hc⟩ := World.cells?_some h
  have hb := World.cells?_block h hn
  have hs:a.spot = none := by
    have h0 := hc 0 hn
    rw [List.getElem?_eq_getElem (by omega)] at h0
    cases hs:a.spot with
    | none => rfl
    | some s =>
      unfold World.cell? at h0
      simp [Addr.add,hs] at h0
      split at h0 <;> simp at h0
  refine ⟨hs,hb,hl,fun j hj => ?_⟩
  have := hc j hj
  rw [← this]
  obtain ⟨b,o,s⟩ := a
  simp only at hs; subst hs
  rw [addr_add]
theorem ref_rep {w:World} {P:Program} {e:TypeId} {a:Addr} {cs:List Value} {vs:List V} (h:w.cells? 0 a (P.cellsOf e) = some cs) (hn:0 < P.cellsOf e) (c:WRep w vs cs):Rep L0 w (.ref (elemV P e vs) 0) (.pointer (some a)) := by
  obtain ⟨h1,h2,h3,h4⟩ := row_of h hn
  obtain ⟨b,o,s⟩ := a
  simp only at h1; subst h1
  have hcells := elemV_cells (P := P) (e := e) c.sc
  refine Rep.ref (o := o) (j := 0) (fun k => cs.getD k undef) (own0 b) h2 (fun k v hk => ?_) (fun k v hk => ?_)
  · rw [hcells] at hk
    have hkl := (List.getElem?_eq_some_iff.1 hk).1
    rw [c.len] at hkl
    rw [h4 k (by omega),List.getD_eq_getElem?_getD,List.getElem?_eq_getElem hkl]; rfl
  · rw [hcells] at hk
    have hkl := (List.getElem?_eq_some_iff.1 hk).1
    rw [c.len] at hkl
    refine c.rep k v _ hk ?_
    rw [List.getD_eq_getElem?_getD,List.getElem?_eq_getElem hkl]; rfl
theorem mapAll_mapM {α β : Type} {f : α → Option β}:∀ {l:List α} {r:List β},l.mapM f = some r → (l = [] ∧ r = []) ∨ ∃ x xs y ys,l = x :: xs ∧ r = y :: ys ∧ f x = some y ∧ xs.mapM f = some ys
  | [],r,h => by simp at h; exact .inl ⟨rfl,h⟩
  | x :: xs,r,h => by
    rw [List.mapM_cons] at h
    cases hx:f x with
    | none => simp [hx] at h
    | some y =>
      cases hxs:xs.mapM f with
      | none => simp [hx,hxs] at h
      | some ys => simp [hx,hxs] at h; exact .inr ⟨x,xs,y,ys,rfl,h.symm,hx,hxs⟩
section
variable {enc:TypeId × Value → H} {P:Program} {w:World} {sp:Nat → Bool} {held:Bool}
def Here (enc:TypeId × Value → H) (P:Program) (w:World) (sp:Nat → Bool) (held:Bool) (fuel:Nat):Prop :=
  ∀ (t:TypeId) (cs:List Value) (d:DataW H) (ps:List MemPlace) (vs:List V),DataW.trod enc P w 0 sp held fuel t cs = some (d,ps) → dV P d t = some vs → WRep w vs cs
theorem dVf_le:∀ (ds:List (DataW H)) (fs:List Field) (o tot:Nat) (us:List V),dVf P ds fs o tot = some us → o ≤ tot ∧ ∀ f,f ∈ fs → f.offset + P.cellsOf f.type ≤ tot
  | [],[],o,tot,us,h => by
    simp only [dVf] at h
    split at h
    · rename_i q; exact ⟨by omega,fun f hf => by simp at hf⟩
    · cases h
  | [],_ :: _,o,tot,us,h => by simp [dVf] at h
  | _ :: _,[],o,tot,us,h => by simp [dVf] at h
  | d :: ds,f :: fs,o,tot,us,h => by
    simp only [dVf] at h
    split at h
    · rename_i ho
      split at h
      · rename_i a b ha hb
        obtain ⟨g1,g2⟩ := dVf_le ds fs _ tot b hb
        refine ⟨by omega,fun g hg => ?_⟩
        rcases List.mem_cons.1 hg with q | q
        · subst q; omega
        · exact g2 g q
      · cases h
    · cases h
theorem fields_rep {fuel:Nat} (ih:Here enc P w sp held fuel) (cs:List Value):∀ (fs:List Field) (o:Nat) (xs:List (DataW H × List MemPlace)) (us:List V),
    (fs.mapM fun f => DataW.trod enc P w 0 sp held fuel f.type ((cs.drop f.offset).take (P.cellsOf f.type))) = some xs → dVf P (xs.map (·.1)) fs o cs.length = some us → WRep w us (cs.drop o)
  | [],o,xs,us,h,hv => by
    simp at h; subst h
    simp only [List.map_nil,dVf] at hv
    split at hv
    · rename_i q
      injection hv with hv; subst hv
      rw [q,List.drop_length]
      exact WRep.nil
    · cases hv
  | f :: fs,o,xs,us,h,hv => by
    have hle := (dVf_le _ _ _ _ _ hv).2 f (by simp)
    rcases mapAll_mapM h with ⟨q,_⟩ | ⟨x,xs',y,ys,e1,e2,e3,e4⟩
    · cases q
    · injection e1 with e1 e1'; subst e1; subst e1'; subst e2
      simp only [List.map_cons,dVf] at hv
      split at hv
      · rename_i ho
        split at hv
        · rename_i a b ha hb
          injection hv with hv; subst hv
          have ra := ih _ _ _ _ _ e3 ha
          have rb := fields_rep ih cs fs (o + P.cellsOf f.type) ys b e4 hb
          have:cs.drop o = (cs.drop f.offset).take (P.cellsOf f.type) ++ cs.drop (o + P.cellsOf f.type) := by
            rw [ho,← List.drop_drop,List.take_append_drop]
          rw [this]
          exact ra.append rb
        · cases hv
      · cases hv
theorem arr_rep {fuel:Nat} (ih:Here enc P w sp held fuel) (cs:List Value) (e:TypeId):∀ (n k:Nat) (xs:List (DataW H × List MemPlace)) (us:List V),
    ((List.range' k n).mapM fun i => DataW.trod enc P w 0 sp held fuel e ((cs.drop (i * P.cellsOf e)).take (P.cellsOf e))) = some xs → dVa P (xs.map (·.1)) e = some us →
    (k + n) * P.cellsOf e ≤ cs.length → WRep w us ((cs.drop (k * P.cellsOf e)).take (n * P.cellsOf e))
  | 0,k,xs,us,h,hv,_ => by
    simp at h; subst h
    simp [dVa] at hv; subst hv
    simpa using WRep.nil
  | n + 1,k,xs,us,h,hv,hle => by
    rw [List.range'_succ] at h
    rcases mapAll_mapM h with ⟨q,_⟩ | ⟨x,xs',y,ys,e1,e2,e3,e4⟩
    · cases q
    · injection e1 with e1 e1'; subst e1; subst e1'; subst e2
      simp only [List.map_cons,dVa] at hv
      split at hv
      · rename_i a b ha hb
        injection hv with hv; subst hv
        have ra := ih _ _ _ _ _ e3 ha
        have rb := arr_rep ih cs e n (k + 1) ys b e4 hb (by rw [show k + 1 + n = k + (n + 1) by omega]; exact hle)
        have:(cs.drop (k * P.cellsOf e)).take ((n + 1) * P.cellsOf e) = (cs.drop (k * P.cellsOf e)).take (P.cellsOf e) ++ (cs.drop ((k + 1) * P.cellsOf e)).take (n * P.cellsOf e) := by
          rw [show (n + 1) * P.cellsOf e = P.cellsOf e + n * P.cellsOf e by rw [Nat.add_mul]; omega,List.take_add,List.drop_drop,show k * P.cellsOf e + P.cellsOf e = (k + 1) * P.cellsOf e by rw [Nat.add_mul]; omega]
        rw [this]
        exact ra.append rb
      · cases hv
/-- What is said of a slice's elements. -/
theorem elems_rep {fuel:Nat} (ih:Here enc P w sp held fuel) (a:Addr) (e:TypeId) (hn:0 < P.cellsOf e):∀ (n k:Nat) (xs:List (DataW H × List MemPlace)) (es:List V),
    ((List.range' k n).mapM fun i => (w.cells? 0 (a.add (i * P.cellsOf e)) (P.cellsOf e)).bind (DataW.trod enc P w 0 sp held fuel e)) = some xs → dVs P (xs.map (·.1)) e = some es →
    es.length = n ∧ ∀ (i:Nat) (v:V),es[i]? = some v → ∃ cs us,w.cells? 0 (a.add ((k + i) * P.cellsOf e)) (P.cellsOf e) = some cs ∧ v = elemV P e us ∧ WRep w us cs
  | 0,k,xs,es,h,hv => by
    simp at h; subst h
    simp [dVs] at hv; subst hv
    exact ⟨rfl,fun i v h => by simp at h⟩
  | n + 1,k,xs,es,h,hv => by
    rw [List.range'_succ] at h
    rcases mapAll_mapM h with ⟨q,_⟩ | ⟨x,xs',y,ys,e1,e2,e3,e4⟩
    · cases q
    · injection e1 with e1 e1'; subst e1; subst e1'; subst e2
      simp only [List.map_cons,dVs] at hv
      split at hv
      · rename_i us es' ha hb
        injection hv with hv; subst hv
        obtain ⟨g1,g2⟩ := elems_rep ih a e hn n (k + 1) ys es' e4 hb
        refine ⟨by simp [g1],fun i v hi => ?_⟩
        cases i with
        | zero =>
          simp at hi; subst hi
          simp only [Option.bind_eq_some_iff] at e3
          obtain ⟨cs,q1,q2⟩ := e3
          exact ⟨cs,us,by simpa using q1,rfl,ih _ _ _ _ _ q2 ha⟩
        | succ i =>
          simp at hi
          obtain ⟨cs,us',q1,q2,q3⟩ := g2 i v hi
          exact ⟨cs,us',by rw [show k + (i + 1) = k + 1 + i by omega]; exact q1,q2,q3⟩
      · cases hv
theorem slice_rep {a:Addr} {e:TypeId} {len cap:Nat} {es:List V} (hn:0 < P.cellsOf e) (hcap:len ≤ cap) (hl:es.length = len)
    (h:∀ (i:Nat) (v:V),es[i]? = some v → ∃ cs us,w.cells? 0 (a.add ((0 + i) * P.cellsOf e)) (P.cellsOf e) = some cs ∧ v = elemV P e us ∧ WRep w us cs):Rep L0 w (.sl es) (.slice (some a) len cap) := by
  cases es with
  | nil => simp at hl; subst hl; exact .sl0 a cap
  | cons v0 es0 =>
    obtain ⟨cs0,us0,z1,z2,z3⟩ := h 0 v0 rfl
    have r0 := row_of z1 hn
    obtain ⟨b,o,s⟩ := a
    have hs:s = none := by have := r0.1; simpa [Addr.add] using this
    subst hs
    have hb:b < w.heap.size := by have := r0.2.1; simpa [Addr.add] using this
    subst hl
    have key:∀ (i:Nat) (v:V),(v0 :: es0)[i]? = some v → ∃ cs us,WRep w us cs ∧ v.cells = us ∧ cs.length = P.cellsOf e ∧ ∀ j,j < P.cellsOf e → w.cell? ⟨b,o + i * P.cellsOf e + j,none⟩ = cs[j]? := by
      intro i v hi
      obtain ⟨cs,us,q1,q2,q3⟩ := h i v hi
      obtain ⟨p1,p2,p3,p4⟩ := row_of q1 hn
      refine ⟨cs,us,q3,by rw [q2]; exact elemV_cells q3.sc,p3,fun j hj => ?_⟩
      have := p4 j hj
      rw [Nat.zero_add,addr_add] at this
      exact this
    refine Rep.sl (sz := P.cellsOf e) (fun i j => (w.cell? ⟨b,o + i * P.cellsOf e + j,none⟩).getD undef) (own0 b) hb hcap (fun i v hi => ?_) (fun i j v c hi hj => ?_) (fun i j v c hi hj => ?_)
    · obtain ⟨cs,us,q1,q2,q3,q4⟩ := key i v hi
      exact ⟨by rw [q2,q1.len,q3],by rw [q2]; exact List.all_eq_true.2 q1.sc⟩
    · obtain ⟨cs,us,q1,q2,q3,q4⟩ := key i v hi
      rw [q2] at hj
      have hjl := (List.getElem?_eq_some_iff.1 hj).1
      rw [q1.len,q3] at hjl
      rw [q4 j hjl,List.getElem?_eq_getElem (by omega)]; rfl
    · obtain ⟨cs,us,q1,q2,q3,q4⟩ := key i v hi
      rw [q2] at hj
      have hjl := (List.getElem?_eq_some_iff.1 hj).1
      rw [q1.len,q3] at hjl
      refine q1.rep j c _ hj ?_
      show cs[j]? = some ((w.cell? ⟨b,o + i * P.cellsOf e + j,none⟩).getD undef)
      rw [q4 j hjl,List.getElem?_eq_getElem (by omega)]; rfl
end
theorem trod_rep {enc:TypeId × Value → H} {P:Program} {w:World} {sp:Nat → Bool} {held:Bool}:∀ (fuel:Nat) (t:TypeId) (cs:List Value) (d:DataW H) (ps:List MemPlace) (vs:List V),
    DataW.trod enc P w 0 sp held fuel t cs = some (d,ps) → dV P d t = some vs → WRep w vs cs := by
  intro fuel
  induction fuel with
  | zero => intro t cs d ps vs h; cases h
  | succ fuel ih =>
    intro t cs d ps vs h hv
    simp only [DataW.trod] at h
    split at h
    · rename_i hu
      injection h with h; injection h with h1 h2; subst h1
      simp only [dV,hu] at hv
      injection hv with hv; subst hv
      exact .one (.bool _) rfl
    · rename_i k k' n hu
      split at h
      · rename_i hq
        injection h with h; injection h with h1 h2; subst h1
        simp only [dV,hu] at hv
        split at hv
        · injection hv with hv; subst hv
          rw [hq.1]
          exact .one (.int _ _) rfl
        · cases hv
      · cases h
    · rename_i k k' n hu
      split at h
      · injection h with h; injection h with h1 h2; subst h1
        simp only [dV,hu] at hv
        cases hv
      · cases h
    · rename_i s hu
      split at h
      · injection h with h; injection h with h1 h2; subst h1
        simp only [dV,hu] at hv
        split at hv
        · injection hv with hv; subst hv
          exact .one (.str s.data.toList) rfl
        · cases hv
      · cases h
    · rename_i e hu
      injection h with h; injection h with h1 h2; subst h1
      simp only [dV,hu] at hv
      injection hv with hv; subst hv
      exact .one .nilp rfl
    · rename_i e a hu
      simp only [Option.map_eq_some_iff,Option.bind_eq_some_iff] at h
      obtain ⟨x,⟨cs',h1,h2⟩,h3⟩ := h
      injection h3 with h3 h4; subst h3
      simp only [dV,hu] at hv
      split at hv
      · rename_i hn
        split at hv
        · rename_i us hd
          injection hv with hv; subst hv
          exact .one (ref_rep h1 hn (ih e cs' x.1 x.2 us h2 hd)) rfl
        · cases hv
      · cases hv
    · rename_i e hu
      injection h with h; injection h with h1 h2; subst h1
      simp only [dV,hu] at hv
      injection hv with hv; subst hv
      exact .one .nils rfl
    · rename_i e a len cap hu
      split at h
      · rename_i hc
        simp only [Option.bind_eq_some_iff,Option.map_eq_some_iff] at h
        obtain ⟨elems,h1,rest,h2,h3⟩ := h
        injection h3 with h3 h4; subst h3
        simp only [dV,hu] at hv
        split at hv
        · rename_i hn
          split at hv
          · rename_i es hd
            injection hv with hv; subst hv
            rw [List.range_eq_range'] at h1
            obtain ⟨g1,g2⟩ := elems_rep ih a e hn.1 len 0 elems es h1 hd
            exact .one (slice_rep hn.1 hc.2.1 g1 g2) rfl
          · cases hv
        · cases hv
      · cases h
    · rename_i cs x1 cs1 fs hu
      split at h
      · rename_i hl
        simp only [Option.map_eq_some_iff] at h
        obtain ⟨xs,h1,h2⟩ := h
        injection h2 with h2 h3; subst h2
        simp only [dV,hu] at hv
        rw [← hl] at hv
        simpa using fields_rep ih cs fs.toList 0 xs vs h1 hv
      · cases h
    · rename_i cs x1 cs1 n e hu
      split at h
      · rename_i hl
        simp only [Option.map_eq_some_iff] at h
        obtain ⟨xs,h1,h2⟩ := h
        injection h2 with h2 h3; subst h2
        simp only [dV,hu] at hv
        split at hv
        · rename_i hn
          rw [List.range_eq_range'] at h1
          have := arr_rep ih cs e n 0 xs vs h1 hv (by rw [Nat.zero_add,hn,hl]; exact Nat.le_refl _)
          rw [Nat.zero_mul,List.drop_zero,hn,← hl,List.take_length] at this
          exact this
        · cases hv
      · cases h
    · rename_i hu
      injection h with h; injection h with h1 h2; subst h1
      simp [dV,hu] at hv
    · rename_i hu
      split at h
      · injection h with h; injection h with h1 h2; subst h1
        simp [dV] at hv
      · simp only [Option.map_eq_some_iff] at h
        obtain ⟨x,h1,h2⟩ := h
        injection h2 with h2 h3; subst h2
        simp [dV] at hv
      · cases h
    · rename_i hu
      injection h with h; injection h with h1 h2; subst h1
      simp only [dV,hu] at hv
      injection hv with hv; subst hv
      exact .one .nilm rfl
    · rename_i hu
      split at h
      · split at h
        · simp only [Option.bind_eq_some_iff] at h
          obtain ⟨x,h1,h2⟩ := h
          split at h2
          · injection h2 with h2; injection h2 with h2 h3; subst h2
            simp [dV] at hv
          · cases h2
        · cases h
      · cases h
    all_goals first
      | (injection h with h; injection h with h1 h2; subst h1; simp only [dV] at hv; split at hv <;> simp_all; done)
      | (split at h <;> first | (cases h; done) | (injection h with h; injection h with h1 h2; subst h1; simp [dV] at hv; done))
      | (cases h; done)
      | trace_state
end Go.Proofs.YtjpjeilfmjdhcaaDoor.E
/- The layer E, part 26: into a claim's walk. No condition. -/
namespace Go.Proofs.YtjpjeilfmjdhcaaDoor.E
open Go.RowKit
set_option linter.unusedSimpArgs false
set_option linter.unnecessarySimpa false
set_option linter.unusedVariables false
theorem ARep.nil {L:Loc} {w:World}:ARep L w [] #[] := ⟨rfl,fun k v h => by simp at h⟩
theorem ARep.cons {L:Loc} {w:World} {u:V} {us:List V} {x:Value} {xs:List Value} (h:Rep L w u x) (g:ARep L w us xs.toArray):ARep L w (u :: us) (x :: xs).toArray := by
  refine ⟨by have := g.1; simp at this ⊢; exact this,fun k v hk => ?_⟩
  cases k with
  | zero => simp at hk; subst hk; exact h
  | succ k =>
    simp at hk
    have := g.2 k v hk
    simpa [Array.getD_eq_getD_getElem?] using this
theorem agg_rep {w:World} {vs:List V} {xs:Array Value} (h:WRep w vs xs.toList):Rep L0 w (.agg vs) (.agg xs) :=
  .agg xs (by have := h.len; simpa using this.symm) (fun k c hk => by
    have hl := (List.getElem?_eq_some_iff.1 hk).1
    rw [h.len] at hl
    have:xs[k]? = some xs[k] := Array.getElem?_eq_getElem (by simpa using hl)
    rw [Array.getD_eq_getD_getElem?,this]
    exact h.rep k c _ hk (by simpa using this))
/-! ### That the input has values here -/
def okT (P:Program) (S:List TypeId) (t:TypeId):Bool := match P.underlying t with
  | some .bool | some (.int _) | some .string => true
  | some (.pointer e) | some (.slice e) => S.contains e && decide (0 < P.cellsOf e)
  | some (.struct fs) => fs.toList.all (fun f => S.contains f.type) && offs fs.toList 0
  | some (.array n e) => S.contains e && decide (n * P.cellsOf e = P.cellsOf t)
  | _ => false
where
  offs:List Field → Nat → Bool
    | [],o => decide (o = P.cellsOf t)
    | f :: fs,o => decide (f.offset = o) && offs fs (o + P.cellsOf f.type)
variable {H:Type} {enc:TypeId × Value → H} {P:Program} {w:World} {sp:Nat → Bool} {held:Bool}
theorem list_some {fuel:Nat} {S:List TypeId} (ih:∀ t cs d ps,S.contains t = true → DataW.trod enc P w 0 sp held fuel t cs = some (d,ps) → ∃ vs,dV P d t = some vs) {α : Type} (g : α → Option (List Value)) {e:TypeId} (he:S.contains e = true) :
    ∀ (l:List α) (xs:List (DataW H × List MemPlace)),(l.mapM fun i => (g i).bind (DataW.trod enc P w 0 sp held fuel e)) = some xs → (∃ es,dVs P (xs.map (·.1)) e = some es) ∧ ∃ es,dVa P (xs.map (·.1)) e = some es
  | l,xs,h => by
    induction l generalizing xs with
    | nil => simp at h; subst h; exact ⟨⟨[],rfl⟩,[],rfl⟩
    | cons a l ih2 =>
      rcases mapAll_mapM h with ⟨q,_⟩ | ⟨x,xs',y,ys,e1,e2,e3,e4⟩
      · cases q
      · injection e1 with e1 e1'; subst e1; subst e1'; subst e2
        simp only [Option.bind_eq_some_iff] at e3
        obtain ⟨cs,_,q2⟩ := e3
        obtain ⟨vs,hv⟩ := ih e cs y.1 y.2 he q2
        obtain ⟨⟨es,g1⟩,es',g2⟩ := ih2 ys e4
        simp only [List.map_cons,dVs,dVa,hv,g1,g2]
        exact ⟨⟨_,rfl⟩,_,rfl⟩
theorem fields_some {fuel:Nat} {S:List TypeId} (ih:∀ t cs d ps,S.contains t = true → DataW.trod enc P w 0 sp held fuel t cs = some (d,ps) → ∃ vs,dV P d t = some vs) (t:TypeId) (cs:List Value) :
    ∀ (fs:List Field) (o:Nat) (xs:List (DataW H × List MemPlace)),(fs.mapM fun f => DataW.trod enc P w 0 sp held fuel f.type ((cs.drop f.offset).take (P.cellsOf f.type))) = some xs →
      (∀ f,f ∈ fs → S.contains f.type = true) → okT.offs P t fs o = true → ∃ us,dVf P (xs.map (·.1)) fs o (P.cellsOf t) = some us
  | [],o,xs,h,_,ho => by
    simp at h; subst h
    simp only [okT.offs,decide_eq_true_eq] at ho
    exact ⟨[],by simp [dVf,ho]⟩
  | f :: fs,o,xs,h,hS,ho => by
    rcases mapAll_mapM h with ⟨q,_⟩ | ⟨x,xs',y,ys,e1,e2,e3,e4⟩
    · cases q
    · injection e1 with e1 e1'; subst e1; subst e1'; subst e2
      simp only [okT.offs,Bool.and_eq_true,decide_eq_true_eq] at ho
      obtain ⟨vs,hv⟩ := ih f.type _ y.1 y.2 (hS f (by simp)) e3
      obtain ⟨us,hu⟩ := fields_some ih t cs fs _ ys e4 (fun g hg => hS g (by simp [hg])) ho.2
      exact ⟨vs ++ us,by simp only [List.map_cons,dVf,ho.1,if_true,hv,hu]⟩
theorem dV_some {S:List TypeId} (hS:S.all (okT P S) = true):∀ (fuel:Nat) (t:TypeId) (cs:List Value) (d:DataW H) (ps:List MemPlace),S.contains t = true → DataW.trod enc P w 0 sp held fuel t cs = some (d,ps) → ∃ vs,dV P d t = some vs := by
  intro fuel
  induction fuel with
  | zero => intro t cs d ps _ h; cases h
  | succ fuel ih =>
    intro t cs d ps ht h
    have hok:okT P S t = true := List.all_eq_true.1 hS t (by simpa using ht)
    simp only [DataW.trod] at h
    unfold okT at hok
    split at h
    · rename_i hu
      injection h with h; injection h with h1 h2; subst h1
      simp [dV,hu]
    · rename_i k k' n hu
      split at h
      · rename_i hq
        injection h with h; injection h with h1 h2; subst h1
        simp [dV,hu,hq.2]
      · cases h
    · rename_i k k' n hu
      rw [hu] at hok; simp at hok
    · rename_i s hu
      split at h
      · rename_i hq
        injection h with h; injection h with h1 h2; subst h1
        have:s.data.toList.length ≤ maxLen := hq
        exact ⟨_,by simp only [dV,hu]; rw [if_pos this]⟩
      · cases h
    · rename_i e hu
      injection h with h; injection h with h1 h2; subst h1
      simp [dV,hu]
    · rename_i e a hu
      rw [hu] at hok
      simp only [Bool.and_eq_true,decide_eq_true_eq] at hok
      simp only [Option.map_eq_some_iff,Option.bind_eq_some_iff] at h
      obtain ⟨x,⟨cs',h1,h2⟩,h3⟩ := h
      injection h3 with h3 h4; subst h3
      obtain ⟨vs,hv⟩ := ih e cs' x.1 x.2 hok.1 h2
      simp [dV,hu,hok.2,hv]
    · rename_i e hu
      injection h with h; injection h with h1 h2; subst h1
      simp [dV,hu]
    · rename_i e a len cap hu
      rw [hu] at hok
      simp only [Bool.and_eq_true,decide_eq_true_eq] at hok
      split at h
      · rename_i hq
        simp only [Option.bind_eq_some_iff,Option.map_eq_some_iff] at h
        obtain ⟨elems,h1,rest,h2,h3⟩ := h
        injection h3 with h3 h4; subst h3
        obtain ⟨⟨es,he⟩,_⟩ := list_some ih (fun i => w.cells? 0 (a.add (i * P.cellsOf e)) (P.cellsOf e)) hok.1 _ _ h1
        have hl:elems.length = len := by
          have:∀ (l:List Nat) (r:List (DataW H × List MemPlace)),(l.mapM fun i => (w.cells? 0 (a.add (i * P.cellsOf e)) (P.cellsOf e)).bind (DataW.trod enc P w 0 sp held fuel e)) = some r → r.length = l.length := by
            intro l
            induction l with
            | nil => intro r q; simp at q; simp [← q]
            | cons x l ihl =>
              intro r q
              rcases mapAll_mapM q with ⟨q,_⟩ | ⟨x',xs',y,ys,e1,e2,e3,e4⟩
              · cases q
              · injection e1 with e1 e1'; subst e1'; subst e2
                simp [ihl ys e4]
          simpa using this _ _ h1
        have hle:(elems.map (·.1)).length ≤ maxLen := by rw [List.length_map,hl]; omega
        exact ⟨_,by simp only [dV,hu]; rw [if_pos ⟨hok.2,hle⟩,he]⟩
      · cases h
    · rename_i cs x1 cs1 fs hu
      rw [hu] at hok
      simp only [Bool.and_eq_true,List.all_eq_true] at hok
      split at h
      · simp only [Option.map_eq_some_iff] at h
        obtain ⟨xs,h1,h2⟩ := h
        injection h2 with h2 h3; subst h2
        obtain ⟨us,hus⟩ := fields_some ih t cs fs.toList 0 xs h1 hok.1 hok.2
        exact ⟨us,by simp only [dV,hu]; exact hus⟩
      · cases h
    · rename_i cs x1 cs1 n e hu
      rw [hu] at hok
      simp only [Bool.and_eq_true,decide_eq_true_eq] at hok
      split at h
      · simp only [Option.map_eq_some_iff] at h
        obtain ⟨xs,h1,h2⟩ := h
        injection h2 with h2 h3; subst h2
        obtain ⟨_,es,he⟩ := list_some ih (fun i => some ((cs.drop (i * P.cellsOf e)).take (P.cellsOf e))) hok.1 _ xs (by simpa using h1)
        exact ⟨es,by simp only [dV,hu,hok.2,if_true]; exact he⟩
      · cases h
    all_goals first
      | (rename_i hu; rw [hu] at hok; simp at hok; done)
      | (cases h; done)
/-! ### What a value's constructor is -/
theorem dV_int' {d:DataW H} {t:TypeId} {k:IntKind} {vs:List V} (hu:P.underlying t = some (.int k)) (h:dV P d t = some vs):∃ n,vs = [.int k n] ∧ k.min ≤ n ∧ n ≤ k.max := by
  cases d <;> simp [dV,hu] at h
  rename_i l
  cases l <;> simp at h
  obtain ⟨⟨rfl,h1⟩,h2⟩ := h
  simp only [Lit.wf,Bool.and_eq_true,decide_eq_true_eq] at h1
  exact ⟨_,h2.symm,h1⟩
theorem dV_str {d:DataW H} {t:TypeId} {vs:List V} (hu:P.underlying t = some .string) (h:dV P d t = some vs):∃ s,vs = [.str s] := by
  cases d <;> simp [dV,hu] at h
  rename_i l
  cases l <;> simp at h
  exact ⟨_,h.2.symm⟩
theorem dVs_length:∀ {ds:List (DataW H)} {e:TypeId} {es:List V},dVs P ds e = some es → es.length = ds.length
  | [],e,es,h => by simp [dVs] at h; subst h; rfl
  | d :: ds,e,es,h => by
    simp only [dVs] at h
    split at h
    · rename_i cs es' h1 h2
      injection h with h; subst h
      simp [dVs_length h2]
    · cases h
theorem dV_slice' {d:DataW H} {t e:TypeId} {vs:List V} (hu:P.underlying t = some (.slice e)) (h:dV P d t = some vs):vs = [.nils] ∨ ∃ elems sp es,d = .slice elems sp ∧ dVs P elems e = some es ∧ vs = [.sl es] ∧ es.length ≤ maxLen := by
  cases d <;> simp [dV,hu] at h
  · exact .inl h.symm
  · rename_i elems sp
    obtain ⟨h1,h2⟩ := h
    split at h2
    · rename_i es he
      injection h2 with h2
      exact .inr ⟨elems,sp,es,rfl,he,h2.symm,by rw [dVs_length he]; exact h1.2⟩
    · cases h2
theorem dV_struct {d:DataW H} {t:TypeId} {fs:Array Field} {vs:List V} (hu:P.underlying t = some (.struct fs)) (h:dV P d t = some vs):∃ ps,d = .agg ps ∧ dVf P ps fs.toList 0 (P.cellsOf t) = some vs := by
  cases d <;> simp [dV,hu] at h
  exact ⟨_,rfl,h⟩
theorem dVf_cons {ps:List (DataW H)} {f:Field} {fs:List Field} {o tot:Nat} {vs:List V} (h:dVf P ps (f :: fs) o tot = some vs):∃ d ds a b,ps = d :: ds ∧ dV P d f.type = some a ∧ dVf P ds fs (o + P.cellsOf f.type) tot = some b ∧ vs = a ++ b := by
  cases ps with
  | nil => simp [dVf] at h
  | cons d ds =>
    simp only [dVf] at h
    split at h
    · split at h
      · rename_i a b ha hb
        injection h with h
        exact ⟨d,ds,a,b,rfl,ha,hb,h.symm⟩
      · cases h
    · cases h
theorem dVf_nil {ps:List (DataW H)} {o tot:Nat} {vs:List V} (h:dVf P ps [] o tot = some vs):ps = [] ∧ vs = [] := by
  cases ps with
  | nil =>
    simp only [dVf] at h
    split at h
    · injection h with h; exact ⟨rfl,h.symm⟩
    · cases h
  | cons => simp [dVf] at h
end Go.Proofs.YtjpjeilfmjdhcaaDoor.E
/- The layer E, part 27: a call that only looks at what cannot be written, and gives what holds no memory, may be made with whatever memory there is. No condition. -/
namespace Go.Proofs.YtjpjeilfmjdhcaaDoor.E
set_option linter.unusedSimpArgs false
set_option linter.unnecessarySimpa false
set_option linter.unusedVariables false
mutual
/-- It names nothing of the heap. -/
def noId:V → Bool
  | .int .. | .bool _ | .str _ | .nilp | .nils | .esl | .nilm | .nilf => true
  | .ref e _ => noId e
  | .sl es => noIds es
  | .fn _ cs => noIds cs
  | .agg cs => noIds cs
  | .tup cs => noIds cs
  | _ => false
def noIds:List V → Bool
  | [] => true
  | v :: vs => noId v && noIds vs
end
mutual
/-- No memory at all. -/
def bare:V → Bool
  | .int .. | .bool _ | .str _ | .nilp | .nils | .esl | .nilm | .nilf => true
  | .agg cs => bares cs
  | .tup cs => bares cs
  | _ => false
def bares:List V → Bool
  | [] => true
  | v :: vs => bare v && bares vs
end
theorem noIds_get:∀ {vs:List V} {k:Nat} {v:V},noIds vs = true → vs[k]? = some v → noId v = true
  | [],k,v,_,h => by simp at h
  | u :: us,0,v,h,hk => by simp [noIds] at h hk; subst hk; exact h.1
  | u :: us,k + 1,v,h,hk => by simp [noIds] at h hk; exact noIds_get h.2 hk
theorem bares_get:∀ {vs:List V} {k:Nat} {v:V},bares vs = true → vs[k]? = some v → bare v = true
  | [],k,v,_,h => by simp at h
  | u :: us,0,v,h,hk => by simp [bares] at h hk; subst hk; exact h.1
  | u :: us,k + 1,v,h,hk => by simp [bares] at h hk; exact bares_get h.2 hk
theorem cells_noId {e:V} (h:noId e = true) {k:Nat} {c:V} (hk:e.cells[k]? = some c):noId c = true := by
  cases e <;> first
    | (simp only [V.cells] at hk; exact noIds_get (by simpa [noId] using h) hk)
    | (simp only [V.cells] at hk; cases k <;> simp at hk <;> subst hk <;> exact h)
theorem rep_noId {L:Loc} {w:World} {v:V} {x:Value} (r:Rep L w v x):noId v = true → Rep L0 w v x := by
  induction r with
  | int k n => exact fun _ => .int k n
  | bool b => exact fun _ => .bool b
  | str l => exact fun _ => .str l
  | nilp => exact fun _ => .nilp
  | ref f ho hb hc hr ih => exact fun h => .ref f (own0 _) hb hc (fun k c hk => ih k c hk (cells_noId (by simpa [noId] using h) hk))
  | nils => exact fun _ => .nils
  | sl f ho hb hcap hs hc hr ih => exact fun h => .sl f (own0 _) hb hcap hs hc (fun i j e c h1 h2 => ih i j e c h1 h2 (cells_noId (noIds_get (by simpa [noId] using h) h1) h2))
  | sl0 a cap => exact fun _ => .sl0 a cap
  | esl a => exact fun _ => .esl a
  | nilm => exact fun _ => .nilm
  | fn vs hl hr ih => exact fun h => .fn vs hl (fun k c hk => ih k c hk (noIds_get (by simpa [noId] using h) hk))
  | nilf => exact fun _ => .nilf
  | agg vs hl hr ih => exact fun h => .agg vs hl (fun k c hk => ih k c hk (noIds_get (by simpa [noId] using h) hk))
  | tup vs hl hr ih => exact fun h => .tup vs hl (fun k c hk => ih k c hk (noIds_get (by simpa [noId] using h) hk))
  | _ => exact fun h => by simp [noId] at h
theorem rep_bare {L L':Loc} {w:World} {v:V} {x:Value} (r:Rep L w v x):bare v = true → Rep L' w v x := by
  induction r with
  | int k n => exact fun _ => .int k n
  | bool b => exact fun _ => .bool b
  | str l => exact fun _ => .str l
  | nilp => exact fun _ => .nilp
  | nils => exact fun _ => .nils
  | esl a => exact fun _ => .esl a
  | nilm => exact fun _ => .nilm
  | nilf => exact fun _ => .nilf
  | agg vs hl hr ih => exact fun h => .agg vs hl (fun k c hk => ih k c hk (bares_get (by simpa [bare] using h) hk))
  | tup vs hl hr ih => exact fun h => .tup vs hl (fun k c hk => ih k c hk (bares_get (by simpa [bare] using h) hk))
  | _ => exact fun h => by simp [bare] at h
theorem HRel.kept {L:Loc} {h:List Ob} {w w':World} (H:HRel L h w) (fr:Fr (Own L0) w w'):HRel L h w' := by
  have fr':Fr (Own L) w w' := fr.mono (fun b hb => (own0 b hb).elim)
  have keep:∀ b,b < w.heap.size → w'.heap[b]? = w.heap[b]? := fun b hb => fr.block b hb (own0 b)
  exact ⟨H.len,fun id ob ho => ORel.step H fr' (Ext.refl L w) (H.obs id ob ho) rfl (fun b bs s hb => keep b (H.mem _ _ _ _ hb)),H.lt,fun id b bs s hb => Nat.lt_of_lt_of_le (H.mem _ _ _ _ hb) fr.size,H.inj,fun id es sz n hx => OldR.step H fr' (Ext.refl L w) (H.old id es sz n hx) rfl (fun b bs s hb hw => ⟨keep b (H.mem _ _ _ _ hb),hw⟩)⟩
/-- A call with no memory of its own, made with memory: the memory is as it was. -/
theorem CE.pure {P:Program} {f:FuncId} {args:List V} {R:V → Prop} (c:CE P f args [] fun v _ => R v ∧ bare v = true) (ha:noIds args = true) (h:List Ob):CE P f args h fun v h' => R v ∧ h' = h := by
  intro L w xs a H
  refine (c L0 w xs ⟨a.1,fun k v hk => rep_noId (a.2 k v hk) (noIds_get ha hk)⟩ (hrel0 w)).mono ?_
  rintro e w' ⟨x,v,h',L',h1,⟨h2,h3⟩,h4,h5,h6,h7⟩
  exact ⟨x,v,h,L,h1,⟨h2,rfl⟩,rep_bare h4 h3,H.kept h6,h6.mono (fun b hb => (own0 b hb).elim),Ext.refl L w⟩
end Go.Proofs.YtjpjeilfmjdhcaaDoor.E
/- The layer E, part 28: evaluation in which the comparisons of named functions are answered ahead, each answer being a condition. No condition. -/
namespace Go.Proofs.YtjpjeilfmjdhcaaDoor.E
set_option linter.unusedSimpArgs false
set_option linter.unusedVariables false
/-- The answers that are left, and what was asked so far. -/
structure Oc where
  left:List Bool
  asked:List (Option V × Bool)
  deriving Inhabited
def Oc.holds (o:Oc):Prop := ∀ p,p ∈ o.asked → p.1 = some (.bool p.2)
end Go.Proofs.YtjpjeilfmjdhcaaDoor.E
/- The layer E, part 31: evaluation with what is known of calls, with answers, and with more than one outcome where a map's order is open. No condition. -/
namespace Go.Proofs.YtjpjeilfmjdhcaaDoor.E
set_option linter.unusedSimpArgs false
set_option linter.unusedVariables false
/-! ### What the temporaries hold, as a tree -/
inductive Tr where
  | nil
  | node (v:V) (l r:Tr)
def Tr.single:Nat → Nat → V → Tr
  | 0,_,_ => .nil
  | f + 1,i,x => match i.beq 0 with
    | true => .node x .nil .nil
    | false => match (i % 2).beq 1 with
      | true => .node (.tup []) (Tr.single f (i / 2) x) .nil
      | false => .node (.tup []) .nil (Tr.single f (i / 2 - 1) x)
theorem beqT {a b:Nat}:(a.beq b = true) ↔ a = b := Nat.beq_eq ▸ Iff.rfl
theorem beqF {a b:Nat}:(a.beq b = false) ↔ a ≠ b := by rw [← Bool.not_eq_true]; exact not_congr beqT
/-! ### The operations once more, each by itself -/
def x_mv (x:EO) (t:Nat → V) (h:List Ob):Option (V × List Ob) := some (x.get t,h)
def x_pick (c:EO) (a:EO) (b:EO) (t:Nat → V) (h:List Ob):Option (V × List Ob) := match c.get t with
  | .bool q => some (if q then a.get t else b.get t,h)
  | _ => none
def x_alloc (arr:Bool) (z:V) (t:Nat → V) (h:List Ob):Option (V × List Ob) := evBox arr h z
def x_box (arr:Bool) (x:EO) (t:Nat → V) (h:List Ob):Option (V × List Ob) := evBox arr h (x.get t)
def x_build (z:List V) (ps:List (Nat × Nat × EO)) (t:Nat → V) (h:List Ob):Option (V × List Ob) := (fillV z (ps.map fun p => (p.1,p.2.1,p.2.2.get t))).map fun cs => (.agg cs,h)
def x_bslice (sz:Nat) (z:V) (len:Nat) (ps:List (Nat × EO)) (t:Nat → V) (h:List Ob):Option (V × List Ob) := evBslice' h sz z len (ps.map fun p => (p.1,p.2.get t))
def x_load1 (a:EO) (t:Nat → V) (h:List Ob):Option (V × List Ob) := (evLoad1 h (a.get t)).map fun v => (v,h)
def x_loadN (n:Nat) (a:EO) (t:Nat → V) (h:List Ob):Option (V × List Ob) := (evLoadN h n (a.get t)).map fun v => (v,h)
def x_store (n:Nat) (a:EO) (x:EO) (t:Nat → V) (h:List Ob):Option (V × List Ob) := (evStore h n (a.get t) (x.get t)).map fun h' => (.tup [],h')
def x_nilck (x:EO) (t:Nat → V) (h:List Ob):Option (V × List Ob) := (evNilck h (x.get t)).map fun v => (v,h)
def x_bin (op:BinOp) (x:EO) (y:EO) (t:Nat → V) (h:List Ob):Option (V × List Ob) := (evBin op (x.get t) (y.get t)).map fun v => (v,h)
def x_eq (neg:Bool) (T:EqT) (x:EO) (y:EO) (t:Nat → V) (h:List Ob):Option (V × List Ob) := (evEq h T (x.get t) (y.get t)).map fun b => (.bool (if neg then !b else b),h)
def x_un (op:UnOp) (x:EO) (t:Nat → V) (h:List Ob):Option (V × List Ob) := (evUn op (x.get t)).map fun v => (v,h)
def x_toInt (k:IntKind) (x:EO) (t:Nat → V) (h:List Ob):Option (V × List Ob) := match x.get t with
  | .int _ m => some (.int k (k.wrap m),h)
  | _ => none
def x_strId (x:EO) (t:Nat → V) (h:List Ob):Option (V × List Ob) := match x.get t with
  | .str l => some (.str l,h)
  | _ => none
def x_toStr (x:EO) (t:Nat → V) (h:List Ob):Option (V × List Ob) := (evToStr h (x.get t)).map fun v => (v,h)
def x_toBytes (x:EO) (t:Nat → V) (h:List Ob):Option (V × List Ob) := match x.get t with
  | .str l => some (evToBytes h l)
  | _ => none
def x_mkfn (f:FuncId) (caps:List EO) (t:Nat → V) (h:List Ob):Option (V × List Ob) := some (.fn f (caps.map (·.get t)),h)
def x_mkslice (z:V) (b:Nat) (l:EO) (c:EO) (t:Nat → V) (h:List Ob):Option (V × List Ob) := match l.get t,c.get t with
  | .int _ l,.int _ c => evMake h z b l c
  | _,_ => none
def x_slcS (x:EO) (lo:Option EO) (hi:Option EO) (t:Nat → V) (h:List Ob):Option (V × List Ob) := match x.get t with
  | .str l => (evSlcS l (lo.map (·.get t)) (hi.map (·.get t))).map fun v => (v,h)
  | _ => none
def x_slcL (sz:Nat) (x:EO) (lo:Option EO) (hi:Option EO) (mx:Option EO) (t:Nat → V) (h:List Ob):Option (V × List Ob) := match x.get t with
  | .hsl id off len => match h[id]? with
    | some (.row _ s) => if s = sz then (evSlcL h (.hsl id off len) (lo.map (·.get t)) (hi.map (·.get t)) (mx.map (·.get t))).map fun v => (v,h) else none
    | _ => none
  | .sl es => if headOk sz es then (evSlcL h (.sl es) (lo.map (·.get t)) (hi.map (·.get t)) (mx.map (·.get t))).map fun v => (v,h) else none
  | v => (evSlcL h v (lo.map (·.get t)) (hi.map (·.get t)) (mx.map (·.get t))).map fun v => (v,h)
def x_slcA (n:Nat) (sz:Nat) (x:EO) (lo:Option EO) (hi:Option EO) (t:Nat → V) (h:List Ob):Option (V × List Ob) := (evSlcA h n sz (x.get t) (lo.map (·.get t)) (hi.map (·.get t))).map fun v => (v,h)
def x_faddr (off:Nat) (x:EO) (t:Nat → V) (h:List Ob):Option (V × List Ob) := match x.get t with
  | .ptr id i j => if aliveB h id then some (.ptr id i (j + off),h) else none
  | .ref e j => some (.ref e (j + off),h)
  | _ => none
def x_field1 (off:Nat) (x:EO) (t:Nat → V) (h:List Ob):Option (V × List Ob) := (evField1 off (x.get t)).map fun v => (v,h)
def x_fieldN (off:Nat) (n:Nat) (x:EO) (t:Nat → V) (h:List Ob):Option (V × List Ob) := (evFieldN off n (x.get t)).map fun v => (v,h)
def x_iaddrA (n:Nat) (sz:Nat) (x:EO) (i:EO) (t:Nat → V) (h:List Ob):Option (V × List Ob) := match i.get t with
  | .int _ m => (evIaddrA h n sz (x.get t) m).map fun v => (v,h)
  | _ => none
def x_iaddrL (sz:Nat) (x:EO) (i:EO) (t:Nat → V) (h:List Ob):Option (V × List Ob) := match i.get t with
  | .int _ m => (evIaddrL h sz (x.get t) m).map fun v => (v,h)
  | _ => none
def x_idxS (x:EO) (i:EO) (t:Nat → V) (h:List Ob):Option (V × List Ob) := match x.get t,i.get t with
  | .str l,.int _ m => (evIdxS l m).map fun v => (v,h)
  | _,_ => none
def x_ext (i:Nat) (x:EO) (t:Nat → V) (h:List Ob):Option (V × List Ob) := (evExt i (x.get t)).map fun v => (v,h)
def x_lenS (x:EO) (t:Nat → V) (h:List Ob):Option (V × List Ob) := match x.get t with
  | .str l => some (.int .i64 l.length,h)
  | _ => none
def x_lenL (x:EO) (t:Nat → V) (h:List Ob):Option (V × List Ob) := (evLenL h (x.get t)).map fun (m:Nat) => ((.int .i64 m:V),h)
def x_app (sz:Nat) (bytes:Nat) (x:EO) (y:EO) (t:Nat → V) (h:List Ob):Option (V × List Ob) := (contsW h sz (y.get t)).bind fun es => evApp h sz bytes (x.get t) es
def x_copy (sz:Nat) (x:EO) (y:EO) (t:Nat → V) (h:List Ob):Option (V × List Ob) := (conts h sz (y.get t)).bind fun es => evCopy h sz (x.get t) es
def x_minmax (mx:Bool) (x:EO) (y:EO) (t:Nat → V) (h:List Ob):Option (V × List Ob) := (evMinmax mx (x.get t) (y.get t)).map fun v => (v,h)
def x_maxN (x:EO) (ys:List EO) (t:Nat → V) (h:List Ob):Option (V × List Ob) := (evMaxL (x.get t) (ys.map (·.get t))).map fun v => (v,h)
def x_mkbm (f:FuncId) (caps:List EO) (t:Nat → V) (h:List Ob):Option (V × List Ob) := some (.bm f (caps.map (·.get t)),h)
def x_mkmap  (t:Nat → V) (h:List Ob):Option (V × List Ob) := some (.mp h.length,h ++ [.map [] 0])
def x_lenM (x:EO) (t:Nat → V) (h:List Ob):Option (V × List Ob) := (evLenM h (x.get t)).map fun (m:Nat) => ((.int .i64 m:V),h)
def x_lookup (kt:LK) (z:V) (ok:Bool) (m:EO) (k:EO) (t:Nat → V) (h:List Ob):Option (V × List Ob) := (evLookup h kt z ok (m.get t) (k.get t)).map fun v => (v,h)
def x_mapupd (kt:LK) (m:EO) (k:EO) (v:EO) (t:Nat → V) (h:List Ob):Option (V × List Ob) := (evMapUpd h kt (m.get t) (k.get t) (v.get t)).map fun h' => (.tup [],h')
def x_delete (kt:LK) (m:EO) (k:EO) (t:Nat → V) (h:List Ob):Option (V × List Ob) := (evDelete h kt (m.get t) (k.get t)).map fun h' => (.tup [],h')
def x_capL (x:EO) (t:Nat → V) (h:List Ob):Option (V × List Ob) := (evCap (x.get t)).map fun (m:Nat) => ((.int .i64 m:V),h)
def x_appZ (_:Nat) (_:Nat) (_:V) (x:EO) (n:EO) (t:Nat → V) (h:List Ob):Option (V × List Ob) := match n.get t with
  | .int _ m => evAppZ h (x.get t) m
  | _ => none
def x_strish (x:EO) (t:Nat → V) (h:List Ob):Option (V × List Ob) := (evStrish h (x.get t)).map fun v => (v,h)
def x_rangeS (x:EO) (t:Nat → V) (h:List Ob):Option (V × List Ob) := evRangeS h (x.get t)
def x_rangeM (x:EO) (t:Nat → V) (h:List Ob):Option (V × List Ob) := evRangeM h (x.get t)
def x_entry (x:EO) (t:Nat → V) (h:List Ob):Option (V × List Ob) := (evEntry h (x.get t)).map fun v => (v,h)
def x_cmpB (x:EO) (y:EO) (t:Nat → V) (h:List Ob):Option (V × List Ob) := match evBytes h (x.get t),evBytes h (y.get t) with
  | some l,some m => some (.int .i64 (Lib.compareBytes l m),h)
  | _,_ => none
def x_idxB (x:EO) (c:EO) (t:Nat → V) (h:List Ob):Option (V × List Ob) := match evBytes h (x.get t),c.get t with
  | some l,.int .u8 c => some (.int .i64 (Lib.indexByte l c.toNat.toUInt8),h)
  | _,_ => none
def x_cntB (x:EO) (c:EO) (t:Nat → V) (h:List Ob):Option (V × List Ob) := match evBytes h (x.get t),c.get t with
  | some l,.int .u8 c => some (.int .i64 (Lib.countByte l c.toNat.toUInt8:Nat),h)
  | _,_ => none
def x_nextS (x:EO) (t:Nat → V) (h:List Ob):Option (V × List Ob) := evNextS h (x.get t)
def evOq (eo:EOp) (t:Nat → V) (h:List Ob):Option (V × List Ob) :=
  match eo with
  | .mv a0 => x_mv a0 t h
  | .pick a0 a1 a2 => x_pick a0 a1 a2 t h
  | .alloc a0 a1 => x_alloc a0 a1 t h
  | .box a0 a1 => x_box a0 a1 t h
  | .build a0 a1 => x_build a0 a1 t h
  | .bslice a0 a1 a2 a3 => x_bslice a0 a1 a2 a3 t h
  | .load1 a0 => x_load1 a0 t h
  | .loadN a0 a1 => x_loadN a0 a1 t h
  | .store a0 a1 a2 => x_store a0 a1 a2 t h
  | .nilck a0 => x_nilck a0 t h
  | .bin a0 a1 a2 => x_bin a0 a1 a2 t h
  | .eq a0 a1 a2 a3 => x_eq a0 a1 a2 a3 t h
  | .un a0 a1 => x_un a0 a1 t h
  | .toInt a0 a1 => x_toInt a0 a1 t h
  | .strId a0 => x_strId a0 t h
  | .toStr a0 => x_toStr a0 t h
  | .toBytes a0 => x_toBytes a0 t h
  | .mkfn a0 a1 => x_mkfn a0 a1 t h
  | .mkslice a0 a1 a2 a3 => x_mkslice a0 a1 a2 a3 t h
  | .slcS a0 a1 a2 => x_slcS a0 a1 a2 t h
  | .slcL a0 a1 a2 a3 a4 => x_slcL a0 a1 a2 a3 a4 t h
  | .slcA a0 a1 a2 a3 a4 => x_slcA a0 a1 a2 a3 a4 t h
  | .faddr a0 a1 => x_faddr a0 a1 t h
  | .field1 a0 a1 => x_field1 a0 a1 t h
  | .fieldN a0 a1 a2 => x_fieldN a0 a1 a2 t h
  | .iaddrA a0 a1 a2 a3 => x_iaddrA a0 a1 a2 a3 t h
  | .iaddrL a0 a1 a2 => x_iaddrL a0 a1 a2 t h
  | .idxS a0 a1 => x_idxS a0 a1 t h
  | .ext a0 a1 => x_ext a0 a1 t h
  | .lenS a0 => x_lenS a0 t h
  | .lenL a0 => x_lenL a0 t h
  | .app a0 a1 a2 a3 => x_app a0 a1 a2 a3 t h
  | .copy a0 a1 a2 => x_copy a0 a1 a2 t h
  | .minmax a0 a1 a2 => x_minmax a0 a1 a2 t h
  | .maxN a0 a1 => x_maxN a0 a1 t h
  | .mkbm a0 a1 => x_mkbm a0 a1 t h
  | .mkmap  => x_mkmap  t h
  | .lenM a0 => x_lenM a0 t h
  | .lookup a0 a1 a2 a3 a4 => x_lookup a0 a1 a2 a3 a4 t h
  | .mapupd a0 a1 a2 a3 => x_mapupd a0 a1 a2 a3 t h
  | .delete a0 a1 a2 => x_delete a0 a1 a2 t h
  | .capL a0 => x_capL a0 t h
  | .appZ a0 a1 a2 a3 a4 => x_appZ a0 a1 a2 a3 a4 t h
  | .strish a0 => x_strish a0 t h
  | .rangeS a0 => x_rangeS a0 t h
  | .rangeM a0 => x_rangeM a0 t h
  | .entry a0 => x_entry a0 t h
  | .cmpB a0 a1 => x_cmpB a0 a1 t h
  | .idxB a0 a1 => x_idxB a0 a1 t h
  | .cntB a0 a1 => x_cntB a0 a1 t h
  | .nextS a0 => x_nextS a0 t h
  | _ => none
theorem evOq_eq (eo:EOp) (t:Nat → V) (h:List Ob):evOq eo t h = evOp eo t h := by cases eo <;> rfl
/-! ### The evaluation -/
/-! ### What is no longer reached falls away -/
def Ob.beq:Ob → Ob → Bool
  | .row es s,.row es' s' => V.beqs es es' && decide (s = s')
  | .map e c,.map e' c' => beqE e e' && decide (c = c')
  | .siter l p,.siter l' p' => decide (l = l') && decide (p = p')
  | .miter m s n p,.miter m' s' n' p' => decide (m = m') && decide (s = s') && decide (n = n') && decide (p = p')
  | .dead,.dead => true
  | _,_ => false
where beqE:List (V × V × Nat) → List (V × V × Nat) → Bool
  | [],[] => true
  | (a,b,c) :: l,(a',b',c') :: l' => V.beq a a' && V.beq b b' && decide (c = c') && beqE l l'
  | _,_ => false
def obsBeq:List Ob → List Ob → Bool
  | [],[] => true
  | a :: l,b :: l' => Ob.beq a b && obsBeq l l'
  | _,_ => false
def outBeq (p q:V × List Ob):Bool := V.beq p.1 q.1 && obsBeq p.2 q.2
/-- Outcomes that are alike, once. -/
def once:List (V × List Ob) → List (V × List Ob) → List (V × List Ob)
  | acc,[] => acc
  | acc,p :: ps => match acc.any (outBeq p) with
    | true => once acc ps
    | false => once (acc ++ [p]) ps
abbrev Sums := FuncId → List V → List Ob → Option (V × List Ob)
/-! ### What it says -/
/-! ### What falls away -/
end Go.Proofs.YtjpjeilfmjdhcaaDoor.E
/- The layer E, part 32: a loop over what has so many parts; small laws for walks by hand. No condition. -/
namespace Go.Proofs.YtjpjeilfmjdhcaaDoor.E
set_option linter.unusedSimpArgs false
set_option linter.unusedVariables false
theorem wpI_mono {P:Program} {Q Q':Post} (hq:∀ x t h,Q x t h → Q' x t h):∀ (l:List EI) (t:Nat → V) (h:List Ob),wpI P Q l t h → wpI P Q' l t h
  | [],t,h,w => hq _ _ _ w
  | i :: rest,t,h,w => by
    simp only [wpI] at w ⊢
    split at w
    · refine wpA_mono (fun s _ => rfl) w (fun v h' g => ?_)
      rw [andRe_iff] at g ⊢
      exact ⟨g.1,wpI_mono hq rest _ _ g.2⟩
    · rw [andRe_iff] at w ⊢
      exact ⟨w.1,wpI_mono hq rest _ _ w.2⟩
    · exact w.elim
theorem wpC_mono {P:Program}:∀ (c:EC) (Q Q':Post) (t:Nat → V) (h:List Ob),(∀ x t h,Q x t h → Q' x t h) → wpC P c Q t h → wpC P c Q' t h := by
  intro c
  induction c with
  | skip => intro Q Q' t h hq w; exact hq _ _ _ w
  | reg l => intro Q Q' t h hq w; exact wpI_mono hq l t h w
  | draw ls => intro Q Q' t h hq w l hl; exact wpI_mono hq l t h (w l hl)
  | seq a b iha ihb =>
    intro Q Q' t h hq w
    simp only [wpC] at w ⊢
    refine iha _ _ t h (fun x t h g => ?_) w
    cases x with
    | normal => exact ihb _ _ _ _ hq g
    | exit j => exact hq _ _ _ g
    | ret => exact hq _ _ _ g
  | cond c a b iha ihb =>
    intro Q Q' t h hq w
    simp only [wpC] at w ⊢
    split at w
    · exact iha _ _ _ _ hq w
    · exact ihb _ _ _ _ hq w
    · exact w
  | block id a ih =>
    intro Q Q' t h hq w
    simp only [wpC] at w ⊢
    refine ih _ _ t h (fun x t h g => ?_) w
    cases x with
    | normal => exact hq _ _ _ g
    | ret => exact hq _ _ _ g
    | exit j =>
      simp only [blockQ] at g ⊢
      split at g
      · rename_i hj; rw [if_pos hj]; exact hq _ _ _ g
      · rename_i hj; rw [if_neg hj]; exact hq _ _ _ g
  | loop a ih =>
    intro Q Q' t h hq w
    simp only [wpC] at w ⊢
    obtain ⟨I,h0,hr⟩ := w
    refine ⟨I,h0,fun m t h hi => ih _ _ t h (fun x t h g => ?_) (hr m t h hi)⟩
    cases x with
    | normal => exact g
    | exit j => exact hq _ _ _ g
    | ret => exact hq _ _ _ g
  | exit id => intro Q Q' t h hq w; exact hq _ _ _ w
  | ret => intro Q Q' t h hq w; exact hq _ _ _ w
theorem wrap_i64 {n:Int} (h1 : -9223372036854775808 ≤ n) (h2:n ≤ 9223372036854775807):IntKind.i64.wrap n = n := by
  simp only [IntKind.wrap,IntKind.signed,IntKind.bits,Bool.true_and,decide_eq_true_eq,ge_iff_le]
  have e:(2:Int) ^ 64 = 18446744073709551616 := by decide
  have e2:(2:Int) ^ (64 - 1) = 9223372036854775808 := by decide
  simp only [e,e2]
  split <;> omega
end Go.Proofs.YtjpjeilfmjdhcaaDoor.E
/- The layer E, part 33: a piece of code run by evaluation where not all is known: what single operations bring is answered, each answer being a condition; of the temporaries only those are told that are asked for. No condition. -/
namespace Go.Proofs.YtjpjeilfmjdhcaaDoor.E
set_option linter.unusedSimpArgs false
set_option linter.unusedVariables false
/-- What is known of the temporaries: the newest first. -/
abbrev Kn := List (Nat × V)
def Kn.get (t:Nat → V):Kn → Nat → V
  | [],i => t i
  | (d,v) :: l,i => match i.beq d with
    | true => v
    | false => Kn.get t l i
def Kn.set:Kn → Nat → V → Kn
  | [],d,v => [(d,v)]
  | (d',v') :: l,d,v => match d.beq d' with
    | true => (d,v) :: l
    | false => (d',v') :: Kn.set l d v
def putK (l:Kn) (dst:Option Nat) (v:V):Kn := match dst with
  | some d => l.set d v
  | none => l
/-- A call comes to just this. -/
def CD (P:Program) (f:FuncId) (args:List V) (h:List Ob) (v:V) (h':List Ob):Prop := entersB P f = true ∧ CE P f args h fun v2 h2 => v2 = v ∧ h2 = h'
/-- The answers that are left, and the conditions so far. -/
structure An where
  left:List (V × List Ob)
  cs:List Prop
def An.ok (a:An):Prop := ∀ p,p ∈ a.cs → p
def evAY (P:Program) (sum:Sums) (ask:Bool) (x:EA) (t:Nat → V) (h:List Ob) (a:An):Option (V × List Ob × An) := match x with
  | .op e => match ask with
    | true => match a.left with
      | p :: ps => some (p.1,p.2,⟨ps,(evOp e t h = some p) :: a.cs⟩)
      | [] => none
    | false => match evOq e t h with
      | some p => some (p.1,p.2,a)
      | none => none
  | .call f args => match ask with
    | true => match a.left with
      | p :: ps => some (p.1,p.2,⟨ps,CD P f (args.map (·.get t)) h p.1 p.2 :: a.cs⟩)
      | [] => none
    | false => match sum f (args.map (·.get t)) h with
      | some p => some (p.1,p.2,a)
      | none => none
  | .callv fv args => match fv.get t with
    | .fn f caps => match ask with
      | true => match a.left with
        | p :: ps => some (p.1,p.2,⟨ps,CD P f (args.map (·.get t) ++ caps) h p.1 p.2 :: a.cs⟩)
        | [] => none
      | false => match sum f (args.map (·.get t) ++ caps) h with
        | some p => some (p.1,p.2,a)
        | none => none
    | _ => none
  | _ => none
def asked (asks:List Nat) (dst:Option Nat):Bool := match dst with
  | some d => asks.any (Nat.beq d)
  | none => asks.any (Nat.beq 9999)
def evIY (P:Program) (sum:Sums) (asks:List Nat) (t:Nat → V):List EI → Kn → List Ob → An → Option (Kn × List Ob × An)
  | [],E,h,a => some (E,h,a)
  | i :: rest,E,h,a => match wantE (E.get t) i.guard with
    | some true => match evAY P sum (asked asks i.dst) i.act (E.get t) h a with
      | some (v,h',a') => match i.re.all fun g => reckB g ((putK E i.dst v).get t) h' with
        | true => evIY P sum asks t rest (putK E i.dst v) h' a'
        | false => none
      | none => none
    | some false => match i.re.all fun g => reckB g ((putK E i.dst (.tup [])).get t) h with
      | true => evIY P sum asks t rest (putK E i.dst (.tup [])) h a
      | false => none
    | none => none
def loopY (body:Kn → List Ob → An → Option (EX × Kn × List Ob × An)):Nat → Kn → List Ob → An → Option (EX × Kn × List Ob × An)
  | 0,_,_,_ => none
  | k + 1,E,h,a => match body E h a with
    | some (.normal,E',h',a') => loopY body k E' h' a'
    | r => r
def evCY (P:Program) (sum:Sums) (asks:List Nat) (lf:Nat) (t:Nat → V):EC → Kn → List Ob → An → Option (EX × Kn × List Ob × An)
  | .skip,E,h,a => some (.normal,E,h,a)
  | .reg l,E,h,a => match evIY P sum asks t l E h a with
    | some (E',h',a') => some (.normal,E',h',a')
    | none => none
  | .draw _,_,_,_ => none
  | .seq x y,E,h,a => match evCY P sum asks lf t x E h a with
    | some (.normal,E',h',a') => evCY P sum asks lf t y E' h' a'
    | r => r
  | .cond c x y,E,h,a => match c.get (E.get t) with
    | .bool true => evCY P sum asks lf t x E h a
    | .bool false => evCY P sum asks lf t y E h a
    | _ => none
  | .block id x,E,h,a => match evCY P sum asks lf t x E h a with
    | some (.exit j,E',h',a') => if j = id then some (.normal,E',h',a') else some (.exit j,E',h',a')
    | r => r
  | .loop x,E,h,a => loopY (evCY P sum asks lf t x) lf E h a
  | .exit id,E,h,a => some (.exit id,E,h,a)
  | .ret,E,h,a => some (.ret,E,h,a)
theorem CD.wp {P:Program} {f:FuncId} {args:List V} {h h':List Ob} {v:V} (c:CD P f args h v h') {K:V → List Ob → Prop} (k:K v h'):CE P f args h K := c.2.mono (fun v2 h2 ⟨r1,r2⟩ => by subst r1; subst r2; exact k)
/-- What is known is so. -/
def Kn.holds (t:Nat → V):Kn → Prop
  | [] => True
  | (d,v) :: l => t d = v ∧ Kn.holds t l
/-! ### Runs: a piece of code comes to just this -/
def Runs (P:Program) (c:EC) (t:Nat → V) (h:List Ob) (x:EX) (t':Nat → V) (h':List Ob):Prop := ∀ Q:Post,Q x t' h' → wpC P c Q t h
theorem Runs.seq {P:Program} {a b:EC} {t t1 t2:Nat → V} {h h1 h2:List Ob} {x:EX} (r:Runs P a t h .normal t1 h1) (s:Runs P b t1 h1 x t2 h2):Runs P (.seq a b) t h x t2 h2 :=
  fun Q q => r _ (s Q q)
theorem Runs.stop {P:Program} {a b:EC} {t t1:Nat → V} {h h1:List Ob} {x:EX} (r:Runs P a t h x t1 h1) (hx:x ≠ .normal):Runs P (.seq a b) t h x t1 h1 :=
  fun Q q => r _ (by cases x with | normal => exact absurd rfl hx | exit j => exact q | ret => exact q)
/-- How a block ends. -/
def inB (id:Nat):EX → EX
  | .exit j => if j = id then .normal else .exit j
  | x => x
theorem Runs.block {P:Program} {a:EC} {id:Nat} {t t1:Nat → V} {h h1:List Ob} {x:EX} (r:Runs P a t h x t1 h1):Runs P (.block id a) t h (inB id x) t1 h1 :=
  fun Q q => r _ (by
    cases x with
    | normal => exact q
    | ret => exact q
    | exit j =>
      simp only [blockQ]
      simp only [inB] at q
      split
      · rename_i hj; rw [if_pos hj] at q; exact q
      · rename_i hj; rw [if_neg hj] at q; exact q)
theorem Runs.round {P:Program} {a:EC} {t t1 t2:Nat → V} {h h1 h2:List Ob} {x:EX} (r:Runs P a t h .normal t1 h1) (s:Runs P (.loop a) t1 h1 x t2 h2):Runs P (.loop a) t h x t2 h2 := by
  intro Q q
  have w := s Q q
  simp only [wpC] at w ⊢
  obtain ⟨I,⟨m,hm⟩,hr⟩ := w
  refine ⟨fun k t' h' => I k t' h' ∨ (k = m + 1 ∧ t' = t ∧ h' = h),⟨m + 1,.inr ⟨rfl,rfl,rfl⟩⟩,?_⟩
  rintro k t' h' (hi | ⟨rfl,rfl,rfl⟩)
  · refine wpC_mono _ _ _ _ _ (fun x t h g => ?_) (hr k t' h' hi)
    cases x with
    | normal =>
      obtain ⟨m',g1,g2⟩ := g
      exact ⟨m',g1,.inl g2⟩
    | exit j => exact g
    | ret => exact g
  · exact r _ ⟨m,Nat.lt_succ_self m,.inl hm⟩
theorem Runs.last {P:Program} {a:EC} {t t1:Nat → V} {h h1:List Ob} {x:EX} (r:Runs P a t h x t1 h1) (hx:x ≠ .normal):Runs P (.loop a) t h x t1 h1 := by
  intro Q q
  simp only [wpC]
  refine ⟨fun k t' h' => t' = t ∧ h' = h,⟨0,rfl,rfl⟩,?_⟩
  rintro m t' h' ⟨rfl,rfl⟩
  exact r _ (by cases x with | normal => exact absurd rfl hx | exit j => exact q | ret => exact q)
/-- A call, from its body's run. -/
theorem CD.of_runs {P:Program} {f:FuncId} {fn:Func} {e:EFn} {args:List V} {h h':List Ob} {x:EX} {t':Nat → V} {v:V} (hf:P.funcs[f]? = some fn) (hc:compF P fn = some e) (hen:entersB P f = true) (hn:args.length ≤ e.n)
    (r:Runs P e.code (env0 args) h x t' h') (hx:x = .normal ∨ x = .ret) (hv:resE e.res t' h' = some v):CD P f args h v h' := by
  refine ⟨hen,CE.of_body hf hc hn (r _ ?_)⟩
  rcases hx with rfl | rfl
  · exact resK_of hv ⟨rfl,rfl⟩
  · exact resK_of hv ⟨rfl,rfl⟩
/-- With no memory of its own, and nothing of it in what comes back: with whatever memory. -/
theorem CD.pure {P:Program} {f:FuncId} {args:List V} {v:V} {h':List Ob} (c:CD P f args [] v h') (ha:noIds args = true) (hv:bare v = true) (h:List Ob):CD P f args h v h :=
  ⟨c.1,(CE.pure (R := fun u => u = v) (c.2.mono fun u h2 q => ⟨q.1,by rw [q.1]; exact hv⟩) ha h).mono fun u h2 q => q⟩
end Go.Proofs.YtjpjeilfmjdhcaaDoor.E
/- The layer E, part 35: slices of plain values, read by place. No condition. -/
namespace Go.Proofs.YtjpjeilfmjdhcaaDoor.E
set_option linter.unusedSimpArgs false
set_option linter.unusedVariables false
/-- What stands at a place of a slice. -/
theorem read_at {h:List Ob} {v:V} {es:List V} (hc:conts h 1 v = some es) (hv:∀ l,v ≠ .str l) {k:Nat} {e:V} (he:es[k]? = some e) (hs:e.cells = [e]) :
    ∃ a,evIaddrL h 1 v (k:Int) = some a ∧ evLoad1 h a = some e := by
  unfold conts at hc
  split at hc
  · injection hc with hc; subst hc; simp at he
  · injection hc with hc; subst hc; simp at he
  · split at hc
    · injection hc with hc; subst hc
      refine ⟨.ref e 0,?_,?_⟩
      · simp [evIaddrL,he,hs]
      · simp [evLoad1,rdCells,hs]
    · cases hc
  · rename_i id off len
    split at hc
    · rename_i es0 s hob
      split at hc
      · rename_i hh
        obtain ⟨rfl,hin⟩ := hh
        injection hc with hc; subst hc
        have hk:k < len ∧ es0[off + k]? = some e := by
          rw [List.getElem?_take] at he
          split at he
          · rename_i q
            rw [List.getElem?_drop] at he
            exact ⟨q,he⟩
          · cases he
        refine ⟨.ptr id (off + k) 0,?_,?_⟩
        · simp only [evIaddrL,hob,Int.toNat_natCast]
          rw [if_pos ⟨Int.natCast_nonneg _,by omega⟩]
          rfl
        · simp [evLoad1,rdCells,hob,hk.2,hs]
      · cases hc
    · cases hc
  · exact absurd rfl (hv _)
  · cases hc
theorem len_of {h:List Ob} {v:V} {es:List V} {sz:Nat} (hc:conts h sz v = some es) (hv:∀ l,v ≠ .str l):evLenL h v = some es.length := by
  unfold conts at hc
  split at hc
  · injection hc with hc; subst hc; rfl
  · injection hc with hc; subst hc; rfl
  · split at hc
    · injection hc with hc; subst hc; rfl
    · cases hc
  · rename_i id off len
    split at hc
    · rename_i es0 s hob
      split at hc
      · rename_i hh
        injection hc with hc; subst hc
        have hlen:((es0.drop off).take len).length = len := by simp only [List.length_take,List.length_drop]; omega
        simp [evLenL,aliveB,hob,hlen]
      · cases hc
    · cases hc
  · exact absurd rfl (hv _)
  · cases hc
end Go.Proofs.YtjpjeilfmjdhcaaDoor.E
