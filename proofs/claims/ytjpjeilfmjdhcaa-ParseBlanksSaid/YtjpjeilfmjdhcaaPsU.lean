/- All that is read of few words fits. No condition. -/
import Derived.Test.YtjpjeilfmjdhcaaPsT
import Derived.Test.YtjpjeilfmjdhcaaPrV
namespace Go.Proofs.Ytjpjeilfmjdhcaa.Ps
open Go Go.Proofs.Ytjpjeilfmjdhcaa.E
open Go.Proofs.Ytjpjeilfmjdhcaa.Ln
open Go.Proofs.Ytjpjeilfmjdhcaa.Ex
open Go.Proofs.Ytjpjeilfmjdhcaa.Pr
set_option maxRecDepth 100000
set_option linter.unusedVariables false
set_option linter.unusedSimpArgs false
theorem moreP_all {α : Type} {ws:List Wd} {m:PM α} {P : α → Prop} (hm:∀ s,P (m s).1):∀ (f:Nat) (acc:List α) (s:RS),(∀ a,a ∈ acc → P a) → ∀ a,a ∈ (moreP ws m f acc s).1 → P a
  | 0,acc,s,h => h
  | f + 1,acc,s,h => by
    simp only [moreP]
    split
    · exact moreP_all hm f _ _ (fun a ha => by
        rcases List.mem_append.1 ha with q | q
        · exact h a q
        · rw [List.mem_singleton.1 q]; exact hm _)
    · exact h
theorem listP_all {α : Type} {ws:List Wd} {m:PM α} {P : α → Prop} (hm:∀ s,P (m s).1) (s:RS):∀ a,a ∈ (listP ws m s).1 → P a := moreP_all hm _ _ _ (fun a ha => by rw [List.mem_singleton.1 ha]; exact hm _)
theorem groupP_all {α : Type} {ws:List Wd} {m:PM α} {P : α → Prop} (hm:∀ s,P (m s).1) (s:RS):∀ a,a ∈ (groupP ws m s).1 → P a := listP_all hm _
theorem listP_len {α : Type} {ws:List Wd} {m:PM α} (s:RS):(listP ws m s).1.length ≤ ws.length + 2 := by
  refine Nat.le_trans (moreP_len _ _ _) ?_
  simp; omega
theorem groupP_len {α : Type} {ws:List Wd} {m:PM α} (s:RS):(groupP ws m s).1.length ≤ ws.length + 2 := listP_len _
section
variable {ws:List Wd} (hw:Short 5000 ws)
include hw
theorem exprP_gd (s:RS):Gd 5000 (exprP ws s).1 := by
  simp only [exprP]
  split <;> exact binP_gd (by decide) hw _ 0 s
theorem whereP_gd (s:RS):∀ x,x ∈ (whereP ws s).1 → Gd 5000 x := by
  intro x hx
  simp only [whereP] at hx
  split at hx
  · rw [List.mem_singleton.1 hx]; exact exprP_gd hw _
  · cases hx
theorem itemP_gd (s:RS):Gd 5000 (itemP ws s).1.e := exprP_gd hw s
theorem orderP_gd (s:RS):Gd 5000 (orderP ws s).1.e := by
  simp only [orderP]
  split <;> exact exprP_gd hw s
theorem assignP_gd (s:RS):Gd 5000 (assignP ws s).1.e := exprP_gd hw _
theorem joinsP_gd:∀ (f:Nat) (acc:List Sr) (s:RS),(∀ a,a ∈ acc → Gd 5000 a.on) → ∀ a,a ∈ (joinsP ws f acc s).1 → Gd 5000 a.on
  | 0,acc,s,h => h
  | f + 1,acc,s,h => by
    simp only [joinsP]
    split
    · exact joinsP_gd f _ _ (fun a ha => by
        rcases List.mem_append.1 ha with q | q
        · exact h a q
        · rw [List.mem_singleton.1 q]; exact exprP_gd hw _)
    · exact h
end
theorem joinsP_len {ws:List Wd}:∀ (f:Nat) (acc:List Sr) (s:RS),(joinsP ws f acc s).1.length ≤ acc.length + f
  | 0,acc,s => Nat.le_refl _
  | f + 1,acc,s => by
    simp only [joinsP]
    split
    · refine Nat.le_trans (joinsP_len f _ _) ?_
      simp; omega
    · simp
theorem whereP_len {ws:List Wd} (s:RS):(whereP ws s).1.length ≤ 1 := by
  simp only [whereP]
  split <;> simp
/-- All expressions of a statement. -/
def exprsQ (q:Qy):List X := q.items.map (·.e) ++ q.srcs.map (·.on) ++ q.wh ++ q.gr ++ q.od.map (·.e)
def exprsM (m:Sm):List X := m.rows.flatten ++ m.sets.map (·.e) ++ m.wh ++ exprsQ m.q
structure LnQ (N:Nat) (q:Qy):Prop where
  n6:q.items.length ≤ N
  n7:q.srcs.length ≤ N
  n8:q.wh.length ≤ N
  n9:q.gr.length ≤ N
  n10:q.od.length ≤ N
structure LnM (N:Nat) (m:Sm):Prop where
  n1:m.cols.length ≤ N
  n2:m.keys.length ≤ N
  n3:m.rows.length ≤ N
  n4:m.sets.length ≤ N
  n5:m.wh.length ≤ N
  n11:∀ r,r ∈ m.rows → r.length ≤ N
  q:LnQ N m.q
def GoodM (m:Sm):Prop := (∀ x,x ∈ exprsM m → Gd 5000 x) ∧ LnM 1000 m
theorem lnz (N:Nat):LnQ N zQ := ⟨Nat.zero_le _,Nat.zero_le _,Nat.zero_le _,Nat.zero_le _,Nat.zero_le _⟩
theorem good0 {k:Int} {n o:List UInt8} {u:Bool} {cs:List Cl} {ks:List (List UInt8)} (h1:cs.length ≤ 1000) (h2:ks.length ≤ 1000):GoodM { zS with k := k,name := n,on := o,un := u,cols := cs,keys := ks } :=
  ⟨fun x hx => by simp [exprsM,exprsQ,zS,zQ] at hx,h1,h2,Nat.zero_le _,Nat.zero_le _,Nat.zero_le _,(fun r hr => nomatch hr),lnz _⟩
theorem query_good {ws:List Wd} (hw:Short 5000 ws) (hf:ws.length ≤ 600) (s:RS):(∀ x,x ∈ exprsQ (queryP ws s).1 → Gd 5000 x) ∧ LnQ 1000 (queryP ws s).1 := by
  have hit:∀ (b:Bool) (t:RS),(∀ a,a ∈ (itemsP ws b t).1 → Gd 5000 a.e) ∧ (itemsP ws b t).1.length ≤ 1000 := by
    intro b t
    simp only [itemsP]
    split
    · exact ⟨(fun a ha => nomatch ha),by simp⟩
    · exact ⟨listP_all (P := fun a:It => Gd 5000 a.e) (itemP_gd hw) t,Nat.le_trans (listP_len t) (by omega)⟩
  have hgr:∀ t:RS,(∀ a,a ∈ (groupByP ws t).1 → Gd 5000 a) ∧ (groupByP ws t).1.length ≤ 1000 := by
    intro t
    simp only [groupByP]
    split
    · exact ⟨listP_all (exprP_gd hw) _,Nat.le_trans (listP_len _) (by omega)⟩
    · exact ⟨(fun a ha => nomatch ha),by simp⟩
  have hod:∀ t:RS,(∀ a,a ∈ (orderByP ws t).1 → Gd 5000 a.e) ∧ (orderByP ws t).1.length ≤ 1000 := by
    intro t
    simp only [orderByP]
    split
    · exact ⟨listP_all (P := fun a:Od => Gd 5000 a.e) (orderP_gd hw) _,Nat.le_trans (listP_len _) (by omega)⟩
    · exact ⟨(fun a ha => nomatch ha),by simp⟩
  have hjn:∀ t u:RS,(∀ a,a ∈ (joinsP ws (ws.length + 1) [(sourceP ws t).1] u).1 → Gd 5000 a.on) ∧ (joinsP ws (ws.length + 1) [(sourceP ws t).1] u).1.length ≤ 1000 := fun t u =>
    ⟨joinsP_gd hw _ _ _ (fun a ha => by rw [List.mem_singleton.1 ha]; exact zX_gd _),Nat.le_trans (joinsP_len _ _ _) (by simp; omega)⟩
  have hwh:∀ t:RS,(∀ a,a ∈ (whereP ws t).1 → Gd 5000 a) ∧ (whereP ws t).1.length ≤ 1000 := fun t => ⟨whereP_gd hw t,Nat.le_trans (whereP_len t) (by omega)⟩
  simp only [queryP]
  refine ⟨fun x hx => ?_,(hit _ _).2,(hjn _ _).2,(hwh _).2,(hgr _).2,(hod _).2⟩
  simp only [exprsQ,List.mem_append,List.mem_map] at hx
  rcases hx with (((⟨a,ha,rfl⟩ | ⟨a,ha,rfl⟩) | hx) | hx) | ⟨a,ha,rfl⟩
  · exact (hit _ _).1 a ha
  · exact (hjn _ _).1 a ha
  · exact (hwh _).1 x hx
  · exact (hgr _).1 x hx
  · exact (hod _).1 a ha
theorem goodQ {k:Int} {n:List UInt8} {q:Qy} (h:(∀ x,x ∈ exprsQ q → Gd 5000 x) ∧ LnQ 1000 q):GoodM { zS with k := k,name := n,q := q } :=
  ⟨fun x hx => h.1 x (by simpa [exprsM,zS] using hx),Nat.zero_le _,Nat.zero_le _,Nat.zero_le _,Nat.zero_le _,Nat.zero_le _,(fun r hr => nomatch hr),h.2⟩
theorem statement_good {ws:List Wd} (hw:Short 5000 ws) (hf:ws.length ≤ 600) (s:RS):GoodM (statementP ws s).1 := by
  have h1:∀ t,GoodM (createP ws t).1 := fun t => by
    simp only [createP]
    split
    · exact good0 (Nat.le_trans (groupP_len _) (by omega)) (by simp [zS])
    · split
      · exact goodQ (query_good hw hf _)
      · exact good0 (by simp [zS]) (Nat.le_trans (groupP_len _) (by omega))
  have h2:∀ t,GoodM (dropP ws t).1 := fun t => by
    simp only [dropP]
    split
    · exact good0 (by simp [zS]) (by simp [zS])
    · split <;> exact good0 (by simp [zS]) (by simp [zS])
  have h3:∀ t,GoodM (insertP ws t).1 := fun t => by
    simp only [insertP]
    refine ⟨fun x hx => ?_,Nat.zero_le _,Nat.zero_le _,Nat.le_trans (listP_len _) (by omega),Nat.zero_le _,Nat.zero_le _,?_,lnz _⟩
    · simp [exprsM,exprsQ,zS,zQ] at hx
      obtain ⟨r,hr,hx⟩ := hx
      exact listP_all (P := fun r:List X => ∀ x,x ∈ r → Gd 5000 x) (fun u => groupP_all (exprP_gd hw) u) _ r hr x hx
    · exact listP_all (P := fun r:List X => r.length ≤ 1000) (fun u => Nat.le_trans (groupP_len u) (by omega)) _
  have h4:∀ t,GoodM (updateP ws t).1 := fun t => by
    simp only [updateP]
    refine ⟨fun x hx => ?_,Nat.zero_le _,Nat.zero_le _,Nat.zero_le _,Nat.le_trans (listP_len _) (by omega),Nat.le_trans (whereP_len _) (by omega),(fun r hr => nomatch hr),lnz _⟩
    simp [exprsM,exprsQ,zS,zQ] at hx
    rcases hx with ⟨a,ha,rfl⟩ | hx
    · exact listP_all (P := fun a:Asg => Gd 5000 a.e) (assignP_gd hw) _ a ha
    · exact whereP_gd hw _ x hx
  have h5:∀ t,GoodM (removeP ws t).1 := fun t => by
    simp only [removeP]
    refine ⟨fun x hx => ?_,Nat.zero_le _,Nat.zero_le _,Nat.zero_le _,Nat.zero_le _,Nat.le_trans (whereP_len _) (by omega),(fun r hr => nomatch hr),lnz _⟩
    simp [exprsM,exprsQ,zS,zQ] at hx
    exact whereP_gd hw _ x hx
  have h6:∀ t,GoodM (lastP ws t).1 := fun t => by
    simp only [lastP]
    split
    · exact good0 (by simp [zS]) (by simp [zS])
    · split
      · exact good0 (by simp [zS]) (by simp [zS])
      · split <;> exact good0 (by simp [zS]) (by simp [zS])
  simp only [statementP]
  split
  · exact h1 _
  · split
    · exact h2 _
    · split
      · exact h3 _
      · split
        · exact h4 _
        · split
          · exact h5 _
          · split
            · exact goodQ (query_good hw hf _)
            · exact h6 _
theorem fz_of {w:Nat}:∀ {k:Nat} {x:X},Wz w k x → Fz w k x
  | k + 1,.mk n ps,d => ⟨d.1.2.2,fun p hp => fz_of (d.2 p hp)⟩
theorem all_fz {w:Nat}:∀ {l:List X},(∀ x,x ∈ l → Gd w x) → ∃ D,∀ x,x ∈ l → Fz w D x
  | [],h => ⟨0,fun x hx => by cases hx⟩
  | y :: l,h => by
    obtain ⟨D,hD⟩ := all_fz (l := l) (fun x hx => h x (List.mem_cons_of_mem _ hx))
    obtain ⟨d,hd⟩ := h y List.mem_cons_self
    refine ⟨max D d,fun x hx => ?_⟩
    rcases List.mem_cons.1 hx with rfl | hx
    · exact (fz_of hd).mono (by omega)
    · exact (hD x hx).mono (by omega)
theorem good_gm {m:Sm} (g:GoodM m):∃ D,GM 5000 D 1000 m := by
  obtain ⟨h,l⟩ := g
  obtain ⟨D,hD⟩ := all_fz h
  refine ⟨D,⟨fun r hr x hx => hD x ?_,fun a ha => hD _ ?_,fun x hx => hD x ?_,fun a ha => hD _ ?_,fun a ha => hD _ ?_,fun x hx => hD x ?_,fun x hx => hD x ?_,fun a ha => hD _ ?_,l.n1,l.n2,l.n3,l.n4,l.n5,l.q.n6,l.q.n7,l.q.n8,l.q.n9,l.q.n10,l.n11⟩⟩
  · simp only [exprsM,List.mem_append,List.mem_flatten]; exact .inl (.inl (.inl ⟨r,hr,hx⟩))
  · simp only [exprsM,List.mem_append,List.mem_map]; exact .inl (.inl (.inr ⟨a,ha,rfl⟩))
  · simp only [exprsM,List.mem_append]; exact .inl (.inr hx)
  · simp only [exprsM,exprsQ,List.mem_append,List.mem_map]; exact .inr (.inl (.inl (.inl (.inl ⟨a,ha,rfl⟩))))
  · simp only [exprsM,exprsQ,List.mem_append,List.mem_map]; exact .inr (.inl (.inl (.inl (.inr ⟨a,ha,rfl⟩))))
  · simp only [exprsM,exprsQ,List.mem_append]; exact .inr (.inl (.inl (.inr hx)))
  · simp only [exprsM,exprsQ,List.mem_append]; exact .inr (.inl (.inr hx))
  · simp only [exprsM,exprsQ,List.mem_append,List.mem_map]; exact .inr (.inr ⟨a,ha,rfl⟩)
theorem read_gm (t:List UInt8):∃ D,GM 5000 D 1000 (readP t).1 := by
  have z:∃ D,GM 5000 D 1000 zS := good_gm (good0 (k := 0) (n := []) (o := []) (u := false) (cs := []) (ks := []) (by simp) (by simp))
  unfold readP
  split
  · rename_i ws e hw
    simp only [readW]
    split
    · exact z
    · split
      · exact z
      · exact good_gm (statement_good (wordsP_short hw) (wordsP_len hw) _)
  · exact z
end Go.Proofs.Ytjpjeilfmjdhcaa.Ps
