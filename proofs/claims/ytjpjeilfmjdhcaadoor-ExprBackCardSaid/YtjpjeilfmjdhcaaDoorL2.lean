/- The layer E, its parts in one file: values and memory, operations, code, and what it comes to. No condition. -/
import Derived.Test.YtjpjeilfmjdhcaaDoorL1
import Derived.Laws.Tables
import Derived.BigFrame
import Derived.Lib.Bytealg
import Derived.BigCall
import Derived.KernelRfl
import Derived.Laws.Externs
/- The layer E, part 13: maps, and ranging over strings and maps. No condition. -/
namespace Go.Proofs.YtjpjeilfmjdhcaaDoor.E
set_option linter.unusedSimpArgs false
set_option linter.unusedVariables false
def LK.fits (P:Program) (t:TypeId):LK → Prop
  | .i => ∃ k,P.underlying t = some (.int k)
  | .s => P.underlying t = some .string
  | .b => P.underlying t = some .bool
def findV (kt:LK) (k:V):List (V × V × Nat) → Nat → Option (Option (Nat × V))
  | [],_ => some none
  | (k',v,_) :: es,i => match eqAt kt (some k) (some k') with
    | some true => some (some (i,v))
    | some false => findV kt k es (i + 1)
    | none => none
theorem sameNow_spec {P:Program} {L:Loc} {w:World} {kt:LK} {t:TypeId} {d:TypeDesc} (hf:kt.fits P t) (hd:P.underlying t = some d) {k k':V} {x x':Value} {r:Bool} (h:Rep L w k x) (h':Rep L w k' x')
    (he:eqAt kt (some k) (some k') = some r):Instr.sameNow d x x' = some r ∧ (r = true → k = k' ∧ Instr.sameBits 10000 x' x = true) := by
  cases kt with
  | i =>
    obtain ⟨q,hq⟩ := hf
    rw [hq] at hd; injection hd with hd; subst hd
    cases k <;> cases k' <;> simp [eqAt] at he
    obtain ⟨rfl,rfl⟩ := he
    cases h; cases h'
    refine ⟨by simp [Instr.sameNow],fun hr => ?_⟩
    simp at hr; subst hr
    exact ⟨rfl,by simp [Instr.sameBits]⟩
  | s =>
    rw [show P.underlying t = some .string from hf] at hd; injection hd with hd; subst hd
    cases k <;> cases k' <;> simp [eqAt] at he
    subst he
    cases h; cases h'
    refine ⟨by simp only [Instr.sameNow]; rw [beq_toListBytes,ByteArray.toList_mk,ByteArray.toList_mk],fun hr => ?_⟩
    simp at hr; subst hr
    exact ⟨rfl,by simp only [Instr.sameBits]; rw [beq_toListBytes]; simp⟩
  | b =>
    rw [show P.underlying t = some .bool from hf] at hd; injection hd with hd; subst hd
    cases k <;> cases k' <;> simp [eqAt] at he
    subst he
    cases h; cases h'
    refine ⟨by simp [Instr.sameNow],fun hr => ?_⟩
    simp at hr; subst hr
    exact ⟨rfl,by simp [Instr.sameBits]⟩
/-- Entries that stand for entries. -/
def EntsRep (L:Loc) (w:World) (ents:List (V × V × Nat)) (mes:List MapEntry):Prop :=
  mes.length = ents.length ∧ ∀ (i:Nat) (k v:V) (t:Nat),ents[i]? = some (k,v,t) → ∃ e:MapEntry,mes[i]? = some e ∧ Rep L w k e.key ∧ Rep L w v e.val ∧ e.born = t
theorem EntsRep.tail {L:Loc} {w:World} {p:V × V × Nat} {ents:List (V × V × Nat)} {m:MapEntry} {mes:List MapEntry} (h:EntsRep L w (p :: ents) (m :: mes)):EntsRep L w ents mes :=
  ⟨by simpa using h.1,fun i k v t hi => by obtain ⟨e,q⟩ := h.2 (i + 1) k v t (by simpa using hi); exact ⟨e,by simpa using q⟩⟩
theorem findNow_spec {P:Program} {L:Loc} {w:World} {kt:LK} {t:TypeId} {d:TypeDesc} (hf:kt.fits P t) (hd:P.underlying t = some d) {k:V} {x:Value} (h:Rep L w k x) :
    ∀ (ents:List (V × V × Nat)) (mes:List MapEntry) (n:Nat) (r:Option (Nat × V)),EntsRep L w ents mes → findV kt k ents n = some r →
    ∃ r',Instr.findNow d x mes n = some r' ∧ (match r,r' with
      | none,none => True
      | some (i,v),some (j,y) => i = j ∧ n ≤ i ∧ Rep L w v y ∧ (∃ k' t',ents[i - n]? = some (k',v,t') ∧ k' = k) ∧ (∃ e,mes[i - n]? = some e ∧ Instr.sameBits 10000 e.key x = true)
      | _,_ => False)
  | [],mes,n,r,he,hr => by
    simp [findV] at hr; subst hr
    have:mes = [] := List.length_eq_zero_iff.1 (by simpa using he.1)
    subst this
    exact ⟨none,rfl,trivial⟩
  | (k',v,t') :: ents,[],n,r,he,hr => by simp [EntsRep] at he
  | (k',v,t') :: ents,m :: mes,n,r,he,hr => by
    obtain ⟨e,q1,q2,q3,q4⟩ := he.2 0 k' v t' (by simp)
    simp at q1; subst q1
    simp only [findV] at hr
    split at hr
    · rename_i heq
      injection hr with hr; subst hr
      obtain ⟨s1,s2⟩ := sameNow_spec hf hd h q2 heq
      obtain ⟨s3,s4⟩ := s2 rfl
      refine ⟨some (n,m.val),by simp [Instr.findNow,s1],rfl,Nat.le_refl _,q3,⟨k',t',by simp,s3.symm⟩,⟨m,by simp,s4⟩⟩
    · rename_i heq
      obtain ⟨s1,_⟩ := sameNow_spec hf hd h q2 heq
      obtain ⟨r',g1,g2⟩ := findNow_spec hf hd h ents mes (n + 1) r he.tail hr
      refine ⟨r',by simp [Instr.findNow,s1,g1],?_⟩
      cases r with
      | none => cases r' with
        | none => trivial
        | some p => exact g2
      | some p => cases r' with
        | none => exact g2
        | some p' =>
          obtain ⟨i,v⟩ := p; obtain ⟨j,y⟩ := p'
          obtain ⟨a1,a2,a3,a4,a5⟩ := g2
          refine ⟨a1,by omega,a3,?_,?_⟩
          · obtain ⟨k',t',z⟩ := a4
            exact ⟨k',t',by rw [show i - n = (i - (n + 1)) + 1 by omega]; simpa using z⟩
          · obtain ⟨e,z⟩ := a5
            exact ⟨e,by rw [show i - n = (i - (n + 1)) + 1 by omega]; simpa using z⟩
    · cases hr
theorem run_findKey {P:Program} {w:World} {t:TypeId} {d:TypeDesc} (hd:P.underlying t = some d) {x:Value} {mes:List MapEntry} {r:Option (Nat × Value)} (h:Instr.findNow d x mes 0 = some r) :
    (Instr.findKey t x mes).run P w = .ok r w := by
  simp only [Instr.findKey,Sem.run_bind,run_underlying hd,Result.andThen_ok,h,Sem.run_pure]
theorem run_checkKey {P:Program} {w:World} {kt:LK} {t:TypeId} (hf:kt.fits P t) (b:Bool) (n:Nat) (x:Value):(Instr.checkKey b (n + 1) t x).run P w = .ok () w := by
  cases kt with
  | i => obtain ⟨k,hk⟩ := hf; simp only [Instr.checkKey,Sem.run_bind,run_underlying hk,Result.andThen_ok]; rfl
  | s => simp only [Instr.checkKey,Sem.run_bind,run_underlying (show P.underlying t = some .string from hf),Result.andThen_ok]; rfl
  | b => simp only [Instr.checkKey,Sem.run_bind,run_underlying (show P.underlying t = some .bool from hf),Result.andThen_ok]; rfl
theorem fits_some {P:Program} {kt:LK} {t:TypeId} (hf:kt.fits P t):∃ d,P.underlying t = some d := by
  cases kt with
  | i => obtain ⟨k,hk⟩ := hf; exact ⟨_,hk⟩
  | s => exact ⟨_,hf⟩
  | b => exact ⟨_,hf⟩
theorem run_getObj_map {P:Program} {w:World} {b:Nat} {mes:Array MapEntry} {clock:Nat} (h:w.heap[b]? = some (.map mes clock)):(getObj b).run P w = .ok (.map mes clock) w := by
  simp only [getObj,Sem.run,h]
theorem run_setObj_map {P:Program} {w:World} {b:Nat} {mes:Array MapEntry} {clock:Nat} (h:w.heap[b]? = some (.map mes clock)) (o:Obj):(setObj b o).run P w = .ok () (E.put w b o) := by
  simp only [setObj,Sem.run,h]; rfl
theorem fr_putMap {B:Nat → Prop} {w:World} {b:Nat} {mes mes':Array MapEntry} {c c':Nat} (hb:B b) (h:w.heap[b]? = some (.map mes c)):Fr B w (put w b (.map mes' c')) := by
  have hlt := (Array.getElem?_eq_some_iff.1 h).1
  refine ⟨rfl,rfl,rfl,by simp [put],fun k hk hn => put_other (fun q => hn (q ▸ hb)),fun k hk => ?_⟩
  by_cases q:k = b
  · subst q
    unfold bsz
    rw [put_same hlt,h]
  · exact bsz_of_heap (put_other q)
/-! ### lookup -/
def okV (ok:Bool) (v:V) (b:Bool):V := if ok then .tup [v,.bool b] else v
def evLookup (h:List Ob) (kt:LK) (z:V) (ok:Bool) (m k:V):Option V :=
  match m with
  | .nilm => (findV kt k [] 0).map fun _ => okV ok z false
  | .mp id => match h[id]? with
    | some (.map ents _) => (findV kt k ents 0).map fun
      | some (_,v) => okV ok v true
      | none => okV ok z false
    | _ => none
  | _ => none
theorem okV_rep {L:Loc} {w:World} {ok b:Bool} {v:V} {x:Value} (h:Rep L w v x):Rep L w (okV ok v b) (if ok then .tuple #[x,.bool b] else x) := by
  unfold okV
  cases ok with
  | true =>
    refine .tup #[x,.bool b] rfl (fun k c hk => ?_)
    match k,hk with
    | 0,hk => simp at hk; subst hk; exact h
    | 1,hk => simp at hk; subst hk; exact .bool b
    | k + 2,hk => simp at hk
  | false => exact h
theorem lookup_good {P:Program} {L:Loc} {h:List Ob} {w:World} (H:HRel L h w) {t kT eT:TypeId} {i:TypeInfo} {zv:Value} {kt:LK} {z:V} {ok:Bool} (hu:P.underlying t = some (.map kT eT)) (hf:kt.fits P kT)
    (hinf:P.info? eT = some i) (hz:i.zero = some zv) (hzv:ofZero zv = some z) {m k r:V} {x y:Value} (rm:Rep L w m x) (rk:Rep L w k y) (he:evLookup h kt z ok m k = some r) :
    Good P L w (Instr.lookup t x y ok) r h := by
  obtain ⟨d,hd⟩ := fits_some hf
  have hzr:∀ w',(zeroValue eT).run P w' = .ok zv w' := fun w' => by simp [zeroValue,typeInfo,hinf,hz]
  unfold evLookup at he
  split at he
  · simp only [findV,Option.map_some,Option.some.injEq] at he
    subst he
    cases rm
    refine .same H (x := if ok then .tuple #[zv,.bool false] else zv) ?_ (okV_rep (ofZero_rep hzv))
    have hfk:(Instr.findKey kT y []:Sem _).run P w = .ok none w := run_findKey hd rfl
    simp only [Instr.lookup,Sem.run_bind,run_underlying hu,Result.andThen_ok,Sem.run_pure,run_checkKey hf,hfk,hzr]
  · rename_i id
    split at he
    · rename_i ents clock hob
      obtain ⟨b,base,sz,mes,h1,h2,h3,h4⟩ := H.obs id _ hob
      simp only [Option.map_eq_some_iff] at he
      obtain ⟨o,ho,hr⟩ := he
      have her:EntsRep L w ents mes.toList := ⟨by simpa using h3,fun i k v t hi => by simpa using h4 i k v t hi⟩
      obtain ⟨r',g1,g2⟩ := findNow_spec (P := P) hf hd rk ents mes.toList 0 o her ho
      have hfk:∀ w',(Instr.findKey kT y mes.toList:Sem _).run P w' = .ok r' w' := fun w' => run_findKey hd g1
      cases rm with
      | mp g =>
        rw [h1] at g; injection g with g; injection g with q1 q2; subst q1
        have run:(Instr.lookup t (.map (some b)) y ok).run P w = .ok (match r' with | some (_,v) => (if ok then .tuple #[v,.bool true] else v) | none => (if ok then .tuple #[zv,.bool false] else zv)) w := by
          simp only [Instr.lookup,Sem.run_bind,run_underlying hu,Result.andThen_ok,Sem.run_pure,run_getObj_map h2,run_checkKey hf,hfk]
          cases r' with
          | none => simp only [Sem.run_bind,hzr,Result.andThen_ok,Sem.run_pure]
          | some p => obtain ⟨j,yv⟩ := p; cases ok <;> rfl
        refine .same H run ?_
        cases o with
        | none => cases r' with
          | none => simp only at hr; subst hr; exact okV_rep (ofZero_rep hzv)
          | some p => exact g2.elim
        | some p => cases r' with
          | none => exact g2.elim
          | some p' => simp only at hr; subst hr; exact okV_rep g2.2.2.1
      | mpD _ g => rw [h1] at g; cases g
    · cases he
  · cases he
/-! ### writing a map -/
def evMapUpd (h:List Ob) (kt:LK) (m k v:V):Option (List Ob) :=
  match m with
  | .mp id => match h[id]? with
    | some (.map ents clock) => (findV kt k ents 0).map fun
      | some (i,_) => h.set id (.map (ents.set i (k,v,((ents[i]?).map (·.2.2)).getD 0)) clock)
      | none => h.set id (.map (ents ++ [(k,v,clock)]) (clock + 1))
    | _ => none
  | _ => none
theorem mapUpd_good {P:Program} {L:Loc} {h h':List Ob} {w:World} (H:HRel L h w) {t kT eT:TypeId} {kt:LK} (hu:P.underlying t = some (.map kT eT)) (hf:kt.fits P kT) {m k v:V} {x y u:Value}
    (rm:Rep L w m x) (rk:Rep L w k y) (rv:Rep L w v u) (he:evMapUpd h kt m k v = some h'):∃ w',(Instr.mapUpdate t x y u).run P w = .ok () w' ∧ HRel L h' w' ∧ Fr (Own L) w w' := by
  obtain ⟨d,hd⟩ := fits_some hf
  unfold evMapUpd at he
  split at he
  · rename_i id
    split at he
    · rename_i ents clock hob
      have hid:id < h.length := (List.getElem?_eq_some_iff.1 hob).1
      obtain ⟨b,base,sz,mes,h1,h2,h3,h4⟩ := H.obs id _ hob
      have hbl := (Array.getElem?_eq_some_iff.1 h2).1
      simp only [Option.map_eq_some_iff] at he
      obtain ⟨o,ho,hr⟩ := he
      have her:EntsRep L w ents mes.toList := ⟨by simpa using h3,fun i k v t hi => by simpa using h4 i k v t hi⟩
      obtain ⟨r',g1,g2⟩ := findNow_spec (P := P) hf hd rk ents mes.toList 0 o her ho
      have hfk:∀ w',(Instr.findKey kT y mes.toList:Sem _).run P w' = .ok r' w' := fun w' => run_findKey hd g1
      cases rm with
      | mp g =>
        rw [h1] at g; injection g with g; injection g with q1 q2; subst q1
        cases o with
        | none => cases r' with
          | some p => exact g2.elim
          | none =>
            simp only at hr; subst hr
            have hfr:Fr (Own L) w (E.put w b (.map (mes.push { key := y,val := u,born := clock }) (clock + 1))) := fr_putMap ⟨id,_,h1⟩ h2
            refine ⟨_,?_,HRel.set H h1 hid (fun ⟨_,_,_,q⟩ => by rw [hob] at q; cases q) hfr (fun k _ hk => put_other hk) ⟨b,base,sz,_,h1,put_same hbl,by simp [h3],fun a k' v' t' ha => ?_⟩,hfr⟩
            · simp only [Instr.mapUpdate,Sem.run_bind,run_underlying hu,Result.andThen_ok,run_getObj_map h2,run_checkKey hf,hfk,run_setObj_map h2]
            · by_cases c:a < ents.length
              · rw [List.getElem?_append_left c] at ha
                obtain ⟨e,p1,p2,p3,p4⟩ := h4 a k' v' t' ha
                exact ⟨e,by rw [Array.getElem?_push,if_neg (by omega)]; exact p1,H.step_rep p2 hfr (Ext.refl _ _),H.step_rep p3 hfr (Ext.refl _ _),p4⟩
              · rw [List.getElem?_append_right (by omega)] at ha
                have:a = ents.length := by
                  rcases Nat.lt_or_ge (a - ents.length) 1 with q | q
                  · omega
                  · rw [List.getElem?_eq_none (by simpa using q)] at ha; cases ha
                subst this
                simp at ha
                obtain ⟨rfl,rfl,rfl⟩ := ha
                exact ⟨⟨y,u,clock⟩,by rw [Array.getElem?_push,if_pos h3.symm],H.step_rep rk hfr (Ext.refl _ _),H.step_rep rv hfr (Ext.refl _ _),rfl⟩
        | some p => cases r' with
          | none => exact g2.elim
          | some p' =>
            obtain ⟨i,v0⟩ := p; obtain ⟨j,y0⟩ := p'
            obtain ⟨rfl,_,_,⟨k0,t0,e1,e2⟩,⟨e,e3,e4⟩⟩ := g2
            simp only [Nat.sub_zero] at e1 e3
            subst e2
            simp only at hr; subst hr
            have hil := (List.getElem?_eq_some_iff.1 e1).1
            have hme:mes[i]? = some e := by simpa using e3
            have hfr:Fr (Own L) w (E.put w b (.map (mes.modify i fun e => { e with key := y,val := u }) clock)) := fr_putMap ⟨id,_,h1⟩ h2
            refine ⟨_,?_,HRel.set H h1 hid (fun ⟨_,_,_,q⟩ => by rw [hob] at q; cases q) hfr (fun k _ hk => put_other hk) ⟨b,base,sz,_,h1,put_same hbl,by simp [h3],fun a k' v' t' ha => ?_⟩,hfr⟩
            · simp only [Instr.mapUpdate,Sem.run_bind,run_underlying hu,Result.andThen_ok,run_getObj_map h2,run_checkKey hf,hfk,Instr.keyThatStays,hme,Option.map_some,Option.getD_some,e4,if_true,Sem.run_pure,run_setObj_map h2]
            · by_cases c:a = i
              · subst c
                rw [List.getElem?_set_self hil] at ha
                injection ha with ha; injection ha with p1 p2; injection p2 with p2 p3; subst p1; subst p2
                obtain ⟨e',p1',p2',p3',p4'⟩ := h4 a _ _ _ e1
                rw [hme] at p1'; injection p1' with p1'; subst p1'
                refine ⟨{ e with key := y,val := u },by rw [Array.getElem?_modify,if_pos rfl,hme]; rfl,H.step_rep rk hfr (Ext.refl _ _),H.step_rep rv hfr (Ext.refl _ _),?_⟩
                rw [e1] at p3
                simpa [p4'] using p3
              · rw [List.getElem?_set_ne (fun q => c q.symm)] at ha
                obtain ⟨e',p1,p2,p3,p4⟩ := h4 a k' v' t' ha
                exact ⟨e',by rw [Array.getElem?_modify,if_neg (fun q => c q.symm)]; exact p1,H.step_rep p2 hfr (Ext.refl _ _),H.step_rep p3 hfr (Ext.refl _ _),p4⟩
      | mpD _ g => rw [h1] at g; cases g
    · cases he
  · cases he
end Go.Proofs.YtjpjeilfmjdhcaaDoor.E
/- The layer E, part 14: the operations, with their types looked up ahead; what each comes to. No condition. -/
namespace Go.Proofs.YtjpjeilfmjdhcaaDoor.E
set_option linter.unusedSimpArgs false
set_option linter.unusedVariables false
inductive EOp where
  | mv (x:EO)
  | pick (c a b:EO)
  | alloc (arr:Bool) (z:V)
  | box (arr:Bool) (x:EO)
  | build (z:List V) (parts:List (Nat × Nat × EO))
  | bslice (sz:Nat) (z:V) (len:Nat) (parts:List (Nat × EO))
  | load1 (a:EO)
  | loadN (n:Nat) (a:EO)
  | store (n:Nat) (a x:EO)
  | nilck (x:EO)
  | bin (op:BinOp) (x y:EO)
  | eq (neg:Bool) (T:EqT) (x y:EO)
  | un (op:UnOp) (x:EO)
  | toInt (k:IntKind) (x:EO)
  | strId (x:EO)
  | toStr (x:EO)
  | toBytes (x:EO)
  | mkfn (f:FuncId) (caps:List EO)
  | mkslice (z:V) (bytes:Nat) (len cap:EO)
  | slcS (x:EO) (lo hi:Option EO)
  | slcL (sz:Nat) (x:EO) (lo hi mx:Option EO)
  | slcA (n sz:Nat) (x:EO) (lo hi:Option EO)
  | faddr (off:Nat) (x:EO)
  | field1 (off:Nat) (x:EO)
  | fieldN (off n:Nat) (x:EO)
  | iaddrA (n sz:Nat) (x i:EO)
  | iaddrL (sz:Nat) (x i:EO)
  | idxS (x i:EO)
  | ext (i:Nat) (x:EO)
  | lenS (x:EO)
  | lenL (x:EO)
  | app (sz bytes:Nat) (x y:EO)
  | copy (sz:Nat) (x y:EO)
  | minmax (mx:Bool) (x y:EO)
  | maxN (x:EO) (ys:List EO)
  | mkbm (f:FuncId) (caps:List EO)
  | mkmap
  | lenM (x:EO)
  | lookup (kt:LK) (z:V) (ok:Bool) (m k:EO)
  | mapupd (kt:LK) (m k v:EO)
  | delete (kt:LK) (m k:EO)
  | appZ (sz bytes:Nat) (z:V) (x n:EO)
  | rangeS (x:EO)
  | rangeM (x:EO)
  | nextS (x:EO)
  | idxA (n sz:Nat) (agg:Bool) (x i:EO)
  | runeStr (x:EO)
  | capL (x:EO)
  | strish (x:EO)
  | cmpB (x y:EO)
  | idxB (x y:EO)
  | clearL (sz:Nat) (z:V) (x:EO)
  | entry (x:EO)
  | cntB (x y:EO)
  deriving Inhabited,Repr
/-- What an operation comes to: a value (undef where it has none), and memory. -/
def GoodOp (P:Program) (L:Loc) (w:World) (s:Sem Next) (v:V) (h':List Ob):Prop :=
  ∃ x w' L',(s.run P w = .ok (.value x) w' ∨ (s.run P w = .ok .skip w' ∧ x = undef)) ∧ Rep L' w' v x ∧ HRel L' h' w' ∧ Fr (Own L) w w' ∧ Ext L w L'
theorem Good.op {P:Program} {L:Loc} {w:World} {s:Sem Value} {v:V} {h':List Ob} (g:Good P L w s v h'):GoodOp P L w (do pure (.value (← s))) v h' := by
  obtain ⟨x,w',L',h1,rest⟩ := g
  exact ⟨x,w',L',.inl (by simp [h1]),rest⟩
theorem undef_rep {L:Loc} {w:World}:Rep L w (.tup []) undef := .tup #[] rfl (fun k c hk => by simp at hk)
theorem good_skip {P:Program} {L:Loc} {h':List Ob} {w:World} {s:Sem Unit} (g:∃ w',s.run P w = .ok () w' ∧ HRel L h' w' ∧ Fr (Own L) w w'):GoodOp P L w (do s; pure .skip) (.tup []) h' := by
  obtain ⟨w',h1,h2,h3⟩ := g
  exact ⟨undef,w',L,.inr ⟨by simp [h1],rfl⟩,undef_rep,h2,h3,Ext.refl L w⟩
theorem GoodOp.same {P:Program} {L:Loc} {h:List Ob} {w:World} {s:Sem Next} {v:V} {x:Value} (H:HRel L h w) (hs:s.run P w = .ok (.value x) w) (r:Rep L w v x):GoodOp P L w s v h :=
  ⟨x,w,L,.inl hs,r,H,Fr.refl _ _,Ext.refl _ _⟩
/-! ### What else is asked of the single operations -/
def evUn (op:UnOp) (x:V):Option V :=
  match op,x with
  | .neg,.int k n => some (.int k (k.wrap (0 - n)))
  | .xor,.int k n => some (.int k (bits .xor k (if k.signed then -1 else k.max) n))
  | .not,.bool b => some (.bool (!b))
  | _,_ => none
theorem un_good {P:Program} {L:Loc} {h:List Ob} {w:World} (H:HRel L h w) {op:UnOp} {x v:V} {a:Value} (ha:Rep L w x a) (he:evUn op x = some v):Good P L w (Op.unary op a) v h := by
  unfold evUn at he
  split at he <;> first | cases he; done | skip
  all_goals injection he with he; subst he; cases ha
  · exact .same H (by simp [Op.unary,Op.intArith]) (.int _ _)
  · exact .same H (by simp only [Op.unary,intBits_xor,Sem.run_pure]) (.int _ _)
  · exact .same H (by simp [Op.unary]) (.bool _)
def evNilck (h:List Ob):V → Option V
  | .ptr id i j => if aliveB h id then some (.ptr id i j) else none
  | .ref e j => some (.ref e j)
  | .fn f c => some (.fn f c)
  | _ => none
def evMinmax (mx:Bool):V → V → Option V
  | .int k a,.int _ b => some (.int k (if mx then (if b > a then b else a) else (if b < a then b else a)))
  | _,_ => none
theorem minmax_good {P:Program} {L:Loc} {h:List Ob} {w:World} (H:HRel L h w) {mx:Bool} {ts:Array TypeId} {ty:TypeId} {x y v:V} {a b:Value} (ha:Rep L w x a) (hb:Rep L w y b) (he:evMinmax mx x y = some v) :
    Good P L w (if mx then Builtin.max_ ts ty #[a,b] else Builtin.min_ ts ty #[a,b]) v h := by
  cases x <;> cases y <;> simp only [evMinmax] at he <;> first | (cases he; done) | skip
  injection he with he; subst he
  cases ha; cases hb
  cases mx with
  | true => exact .same H (by simp [Builtin.max_,Builtin.max2]) (.int _ _)
  | false => exact .same H (by simp [Builtin.min_,Builtin.min2]) (.int _ _)
/-- The greatest of several. -/
def evMaxL:V → List V → Option V
  | v,[] => some v
  | v,y :: ys => match evMinmax true v y with
    | some u => evMaxL u ys
    | none => none
theorem maxL_good {P:Program} {L:Loc} {h:List Ob} {w:World} (H:HRel L h w):∀ (ys:List V) (bs:List Value) (x v:V) (a:Value),Rep L w x a → bs.length = ys.length → (∀ k y,ys[k]? = some y → Rep L w y (bs.getD k undef)) → evMaxL x ys = some v →
    Good P L w (bs.foldlM Builtin.max2 a) v h
  | [],bs,x,v,a,ha,hl,hr,he => by
    have:bs = [] := List.eq_nil_of_length_eq_zero (by simpa using hl)
    subst this
    simp only [evMaxL,Option.some.injEq] at he
    subst he
    exact .same H (by simp) ha
  | y :: ys,[],x,v,a,ha,hl,hr,he => by simp at hl
  | y :: ys,b :: bs,x,v,a,ha,hl,hr,he => by
    have hb := hr 0 y rfl
    simp only [List.getD_cons_zero] at hb
    simp only [evMaxL] at he
    split at he
    · rename_i u hu
      cases x <;> cases y <;> simp only [evMinmax] at hu <;> first | (cases hu; done) | skip
      injection hu with hu; subst hu
      cases ha; cases hb
      have := maxL_good (P := P) H ys bs _ v _ (.int _ _) (by simpa using hl) (fun k z hk => by simpa using hr (k + 1) z (by simpa using hk)) he
      simpa [List.foldlM,Builtin.max2] using this
    · cases he
/-- A literal slice. -/
def setAll (es:List V):List (Nat × V) → List V
  | [] => es
  | (i,v) :: ps => setAll (es.set i v) ps
def evLenM (h:List Ob):V → Option Nat
  | .nilm => some 0
  | .mp id => match h[id]? with
    | some (.map ents _) => some ents.length
    | _ => none
  | _ => none
theorem lenM_good {P:Program} {L:Loc} {h:List Ob} {w:World} (H:HRel L h w) {t kT eT ty:TypeId} {ts:Array TypeId} {v:V} {x:Value} {n:Nat} (hu:P.underlying t = some (.map kT eT)) (ht:ts[0]? = some t) (r:Rep L w v x) (he:evLenM h v = some n) :
    Good P L w (Builtin.len_ ts ty #[x]) (.int .i64 n) h := by
  unfold evLenM at he
  split at he
  · injection he with he; subst he; cases r
    refine .same H (x := .int .i64 0) ?_ (.int _ _)
    unfold Builtin.len_
    rw [ht]
    simp only [List.getElem?_toArray,List.getElem?_cons_zero,Sem.run_bind,run_underlying hu,Result.andThen_ok,Sem.run_pure,goInt]
  · rename_i id
    split at he
    · rename_i ents clock hob
      injection he with he; subst he
      obtain ⟨b,base,sz,mes,h1,h2,h3,h4⟩ := H.obs id _ hob
      cases r with
      | mp g =>
        rw [h1] at g; injection g with g; injection g with q1 q2; subst q1
        refine .same H (x := .int .i64 ents.length) ?_ (.int _ _)
        unfold Builtin.len_
        rw [ht]
        simp only [List.getElem?_toArray,List.getElem?_cons_zero,Sem.run_bind,run_underlying hu,Result.andThen_ok,run_getObj_map h2,Sem.run_pure,goInt,h3]
      | mpD _ g => rw [h1] at g; cases g
    · cases he
  · cases he
theorem mkmap_good {P:Program} {L:Loc} {h:List Ob} {w:World} (H:HRel L h w) {t:TypeId} {r:Option Value} (hr:r = none ∨ (∃ kT eT k n,P.underlying t = some (.map kT eT) ∧ r = some (.int k n))) :
    Good P L w (Instr.makeMap t r) (.mp h.length) (h ++ [.map [] 0]) := by
  have hrun:(Instr.makeMap t r).run P w = .ok (.map (some w.heap.size)) { w with heap := w.heap.push (.map #[] 0) } := by
    rcases hr with rfl | ⟨kT,eT,k,n,hu,rfl⟩
    · simp only [Instr.makeMap,Sem.run_bind,run_newObj,Result.andThen_ok,Sem.run_pure]
    · simp only [Instr.makeMap,Sem.run_bind,run_underlying hu,asInt,asIntOf,run_newObj,Result.andThen_ok,Sem.run_pure]
  have fr := fr_alloc (Own L) w (.map #[] 0)
  have ex := ext_push L w w.heap.size 0 1 (Nat.le_refl _)
  refine ⟨_,_,L.push (w.heap.size,0,1),hrun,?_,HRel.push H _ _ 0 1 ⟨w.heap.size,0,1,#[],L.push_new _,by show (w.heap.push _)[w.heap.size]? = _; simp,rfl,fun i k v t hi => by simp at hi⟩,fr,ex⟩
  have := Rep.mp (w := { w with heap := w.heap.push (.map #[] 0) }) (L.push_new (w.heap.size,0,1))
  rw [H.len] at this
  exact this
def evDelete (h:List Ob) (kt:LK) (m k:V):Option (List Ob) :=
  match m with
  | .nilm => some h
  | .mp id => match h[id]? with
    | some (.map ents clock) => (findV kt k ents 0).map fun
      | some (i,_) => h.set id (.map (ents.eraseIdx i) clock)
      | none => h.set id (.map ents clock)
    | _ => none
  | _ => none
theorem delete_good {P:Program} {L:Loc} {h h':List Ob} {w:World} (H:HRel L h w) {t kT eT ty:TypeId} {ts:Array TypeId} {kt:LK} (ht:ts[0]? = some t) (hu:P.underlying t = some (.map kT eT)) (hf:kt.fits P kT) {m k:V} {x y:Value}
    (rm:Rep L w m x) (rk:Rep L w k y) (he:evDelete h kt m k = some h'):Good P L w (Builtin.delete_ ts ty #[x,y]) (.tup []) h' := by
  obtain ⟨d,hd⟩ := fits_some hf
  unfold evDelete at he
  split at he
  · injection he with he; subst he
    cases rm
    refine .same H (x := undef) ?_ undef_rep
    unfold Builtin.delete_
    rw [ht]
    simp only [List.getElem?_toArray,List.getElem?_cons_zero,List.getElem?_cons_succ,Sem.run_bind,run_underlying hu,Result.andThen_ok,run_checkKey hf,Sem.run_pure]
    rfl
  · rename_i id
    split at he
    · rename_i ents clock hob
      have hid:id < h.length := (List.getElem?_eq_some_iff.1 hob).1
      obtain ⟨b,base,sz,mes,h1,h2,h3,h4⟩ := H.obs id _ hob
      have hbl := (Array.getElem?_eq_some_iff.1 h2).1
      simp only [Option.map_eq_some_iff] at he
      obtain ⟨o,ho,hr⟩ := he
      have her:EntsRep L w ents mes.toList := ⟨by simpa using h3,fun i k v t hi => by simpa using h4 i k v t hi⟩
      obtain ⟨r',g1,g2⟩ := findNow_spec (P := P) hf hd rk ents mes.toList 0 o her ho
      have hfk:∀ w',(Instr.findKey kT y mes.toList:Sem _).run P w' = .ok r' w' := fun w' => run_findKey hd g1
      cases rm with
      | mp g =>
        rw [h1] at g; injection g with g; injection g with q1 q2; subst q1
        cases o with
        | none => cases r' with
          | some p => exact g2.elim
          | none =>
            simp only at hr; subst hr
            have hfr:Fr (Own L) w (E.put w b (.map mes clock)) := fr_putMap ⟨id,_,h1⟩ h2
            refine ⟨undef,_,L,?_,undef_rep,HRel.set H h1 hid (fun ⟨_,_,_,q⟩ => by rw [hob] at q; cases q) hfr (fun k _ hk => put_other hk) ⟨b,base,sz,_,h1,put_same hbl,h3,fun a k' v' t' ha => ?_⟩,hfr,Ext.refl _ _⟩
            · unfold Builtin.delete_
              rw [ht]
              simp only [List.getElem?_toArray,List.getElem?_cons_zero,List.getElem?_cons_succ,Sem.run_bind,run_underlying hu,Result.andThen_ok,run_getObj_map h2,run_checkKey hf,hfk,run_setObj_map h2,Sem.run_pure]
              rfl
            · obtain ⟨e,p1,p2,p3,p4⟩ := h4 a k' v' t' ha
              exact ⟨e,p1,H.step_rep p2 hfr (Ext.refl _ _),H.step_rep p3 hfr (Ext.refl _ _),p4⟩
        | some p => cases r' with
          | none => exact g2.elim
          | some p' =>
            obtain ⟨i,v0⟩ := p; obtain ⟨j,y0⟩ := p'
            obtain ⟨rfl,_,_,⟨k0,t0,e1,e2⟩,_⟩ := g2
            simp only [Nat.sub_zero] at e1
            simp only at hr; subst hr
            have hil := (List.getElem?_eq_some_iff.1 e1).1
            have hfr:Fr (Own L) w (E.put w b (.map (mes.eraseIdxIfInBounds i) clock)) := fr_putMap ⟨id,_,h1⟩ h2
            have hsz:i < mes.size := by omega
            refine ⟨undef,_,L,?_,undef_rep,HRel.set H h1 hid (fun ⟨_,_,_,q⟩ => by rw [hob] at q; cases q) hfr (fun k _ hk => put_other hk) ⟨b,base,sz,_,h1,put_same hbl,?_,fun a k' v' t' ha => ?_⟩,hfr,Ext.refl _ _⟩
            · unfold Builtin.delete_
              rw [ht]
              simp only [List.getElem?_toArray,List.getElem?_cons_zero,List.getElem?_cons_succ,Sem.run_bind,run_underlying hu,Result.andThen_ok,run_getObj_map h2,run_checkKey hf,hfk,run_setObj_map h2,Sem.run_pure]
              rfl
            · simp [Array.eraseIdxIfInBounds,hsz,List.length_eraseIdx,hil,h3]
            · rw [List.getElem?_eraseIdx] at ha
              have key:∀ q:Nat,ents[q]? = some (k',v',t') → (mes.eraseIdxIfInBounds i)[a]? = mes[q]? → ∃ e,(mes.eraseIdxIfInBounds i)[a]? = some e ∧ Rep L (E.put w b (.map (mes.eraseIdxIfInBounds i) clock)) k' e.key ∧ Rep L (E.put w b (.map (mes.eraseIdxIfInBounds i) clock)) v' e.val ∧ e.born = t' := by
                intro q hq hm
                obtain ⟨e,p1,p2,p3,p4⟩ := h4 q k' v' t' hq
                exact ⟨e,hm.trans p1,H.step_rep p2 hfr (Ext.refl _ _),H.step_rep p3 hfr (Ext.refl _ _),p4⟩
              have hme:(mes.eraseIdxIfInBounds i)[a]? = if a < i then mes[a]? else mes[a + 1]? := by
                simp only [Array.eraseIdxIfInBounds,hsz,dif_pos,Array.getElem?_eraseIdx]
              split at ha
              · rename_i c; exact key a ha (by rw [hme,if_pos c])
              · rename_i c; exact key (a + 1) ha (by rw [hme,if_neg c])
      | mpD _ g => rw [h1] at g; cases g
    · cases he
  · cases he
end Go.Proofs.YtjpjeilfmjdhcaaDoor.E
/- The layer E, part 15: a literal slice; an operation with its types looked up ahead, and what it comes to. No condition. -/
namespace Go.Proofs.YtjpjeilfmjdhcaaDoor.E
set_option linter.unusedSimpArgs false
set_option linter.unusedVariables false
def plainV (sz:Nat) (v:V):Bool := v.cells.length == sz && v.cells.all V.scalar && (match v with | .tup _ | .junk => false | _ => true)
theorem plainV_spec {sz:Nat} {v:V} (h:plainV sz v = true):flat sz v ∧ (v.scalar = true ∨ ∃ cs,v = .agg cs) := by
  simp only [plainV,Bool.and_eq_true,beq_iff_eq] at h
  refine ⟨⟨h.1.1,h.1.2⟩,?_⟩
  cases v <;> first | exact .inl rfl | exact .inr ⟨_,rfl⟩ | (simp at h)
def evBslice' (h:List Ob) (sz:Nat) (z:V) (len:Nat) (ps:List (Nat × V)):Option (V × List Ob) :=
  if len * sz ≤ 16777216 ∧ ps.all (fun p => decide (p.1 < len) && plainV sz p.2) then
    some (.hsl h.length 0 len,h ++ [.row (setAll (List.replicate len z) ps) sz]) else none
/-- Parts of a literal slice. -/
def SRep (L:Loc) (w:World):List (Nat × V) → List (Nat × Value) → Prop
  | [],[] => True
  | (i,v) :: ps,(j,x) :: xs => i = j ∧ Rep L w v x ∧ SRep L w ps xs
  | _,_ => False
/-- Cells that stand for elements. -/
def CRep (L:Loc) (w:World) (sz:Nat) (es:List V) (c:Array Value):Prop :=
  c.size = es.length * sz ∧ (∀ (k:Nat) (e:V),es[k]? = some e → flat sz e) ∧ ∀ (i j:Nat) (e y:V),es[i]? = some e → e.cells[j]? = some y → ∃ v,c[i * sz + j]? = some v ∧ Rep L w y v
theorem fillS_spec {L:Loc} {w:World} {sz len:Nat}:∀ (ps:List (Nat × V)) (xs:List (Nat × Value)) (es:List V) (c:Array Value),SRep L w ps xs → es.length = len → ps.all (fun p => decide (p.1 < len) && plainV sz p.2) = true →
    CRep L w sz es c → ∃ c',Instr.fill (fun i => some (i * sz,sz)) c xs = some c' ∧ (setAll es ps).length = len ∧ CRep L w sz (setAll es ps) c'
  | [],[],es,c,_,hl,_,hc => ⟨c,rfl,hl,hc⟩
  | [],_ :: _,_,_,h,_,_,_ => h.elim
  | _ :: _,[],_,_,h,_,_,_ => h.elim
  | (i,v) :: ps,(j,x) :: xs,es,c,h,hl,hp,hc => by
    obtain ⟨rfl,h2,h3⟩ := h
    simp only [List.all_cons,Bool.and_eq_true,decide_eq_true_eq] at hp
    obtain ⟨⟨hi,hpv⟩,hps⟩ := hp
    obtain ⟨hfl,hv⟩ := plainV_spec hpv
    obtain ⟨c1,c2⟩ := h2.cells hv
    have hxs:x.cells.size = sz := by rw [c1,hfl.1]
    have hm:(i + 1) * sz ≤ len * sz := Nat.mul_le_mul_right _ hi
    have hcs := hc.1
    rw [hl] at hcs
    have hfit:i * sz + x.cells.toList.length ≤ c.size := by rw [Nat.add_mul] at hm; simp only [Array.length_toList]; omega
    have hfold:(x.cells.zipIdx.foldl (fun cs (p:Value × Nat) => cs.setIfInBounds (i * sz + p.2) p.1) c) = writeAt c (i * sz) x.cells.toList := by
      have := fold_writeAt x.cells.toList 0 c (i * sz)
      rw [← Array.foldl_toList,Array.toList_zipIdx]
      exact this
    have hc':CRep L w sz (es.set i v) (writeAt c (i * sz) x.cells.toList) := by
      refine ⟨by rw [writeAt_size]; simpa using hc.1,fun k e hk => ?_,fun a b e y ha hb => ?_⟩
      · by_cases q:k = i
        · subst q; rw [List.getElem?_set_self (by omega)] at hk; injection hk with hk; subst hk; exact hfl
        · rw [List.getElem?_set_ne (fun e => q e.symm)] at hk; exact hc.2.1 k e hk
      · rw [writeAt_get _ _ _ hfit]
        simp only [Array.length_toList,hxs]
        by_cases q:a = i
        · subst q
          rw [List.getElem?_set_self (by omega)] at ha
          injection ha with ha; subst ha
          have hbl := (List.getElem?_eq_some_iff.1 hb).1
          rw [hfl.1] at hbl
          rw [if_pos (by omega),show a * sz + b - a * sz = b by omega]
          refine ⟨x.cells.getD b undef,?_,c2 b y hb⟩
          simp [Array.getD,hxs,hbl]
        · rw [List.getElem?_set_ne (fun e => q e.symm)] at ha
          have hbl := (List.getElem?_eq_some_iff.1 hb).1
          rw [(hc.2.1 a e ha).1] at hbl
          rw [if_neg ?_]
          · exact hc.2.2 a b e y ha hb
          · intro hh
            rcases Nat.lt_or_gt_of_ne q with q' | q'
            · have:(a + 1) * sz ≤ i * sz := Nat.mul_le_mul_right _ q'
              rw [Nat.add_mul] at this; omega
            · have:(i + 1) * sz ≤ a * sz := Nat.mul_le_mul_right _ q'
              rw [Nat.add_mul] at this; omega
    obtain ⟨c'',g1,g2,g3⟩ := fillS_spec ps xs (es.set i v) _ h3 (by simpa using hl) hps hc'
    refine ⟨c'',?_,g2,g3⟩
    simp only [Instr.fill]
    rw [if_neg (by simp only [Bool.or_eq_true,decide_eq_true_eq]; simp only [Array.length_toList] at hfit; omega),hfold]
    exact g1
theorem bslice_good {P:Program} {L:Loc} {h h':List Ob} {w:World} (H:HRel L h w) {t e:TypeId} {i:TypeInfo} {zv:Value} {z r:V} {len:Nat} {ps:List (Nat × V)} {xs:List (Nat × Value)} (hu:P.underlying t = some (.slice e)) (hinf:P.info? e = some i)
    (hz:i.zero = some zv) (hv:ofZero zv = some z) (hpz:plainV i.size z = true) (hpos:0 < i.size) (hs:SRep L w ps xs) (he:evBslice' h i.size z len ps = some (r,h')):Good P L w (Instr.buildSlice t len xs.toArray) r h' := by
  unfold evBslice' at he
  split at he
  · rename_i hh
    injection he with he; injection he with he1 he2; subst he1; subst he2
    obtain ⟨hfl,hzs⟩ := plainV_spec hpz
    obtain ⟨c1,c2⟩ := (ofZero_rep (L := L) (w := w) hv).cells hzs
    rw [hfl.1] at c1
    have hzr:∀ w',(zeroValue e).run P w' = .ok zv w' := fun w' => by simp [zeroValue,typeInfo,hinf,hz]
    let zc:Array Value := if len * i.size = 0 then #[] else zv.cells
    let c0:Array Value := (Array.range (len * i.size)).map fun q => zc[q % zc.size]!
    have hc0:CRep L w i.size (List.replicate len z) c0 := by
      refine ⟨by simp [c0],fun k e hk => ?_,fun a j x y hx hy => ?_⟩
      · have := List.mem_of_getElem? hk
        rw [List.mem_replicate] at this
        rw [this.2]; exact hfl
      · have hx' := hx
        have hm := List.mem_of_getElem? hx
        rw [List.mem_replicate] at hm
        obtain ⟨_,rfl⟩ := hm
        have hal := (List.getElem?_eq_some_iff.1 hx').1
        rw [List.length_replicate] at hal
        have hjl := (List.getElem?_eq_some_iff.1 hy).1
        rw [hfl.1] at hjl
        have hm := mul_le_of_lt (a := a) (n := len) (sz := i.size) (j := j) hal hjl
        refine ⟨zv.cells.getD j undef,?_,c2 j y hy⟩
        have hne:len * i.size ≠ 0 := by omega
        have hzc:zc = zv.cells := if_neg hne
        simp only [c0,hzc,Array.getElem?_map,Array.getElem?_range,hm,if_true,Option.map_some,c1]
        congr 1
        rw [Nat.mul_comm a,Nat.mul_add_mod,Nat.mod_eq_of_lt hjl]
        simp [Array.getD,c1,hjl,getElem!_pos]
    obtain ⟨c',g1,g2,g3⟩ := fillS_spec ps xs (List.replicate len z) c0 hs (by simp) hh.2 hc0
    have hrun:(Instr.buildSlice t len xs.toArray).run P w = .ok (.slice (some ⟨w.heap.size,0,none⟩) len len) { w with heap := w.heap.push (.cells c' e) } := by
      simp only [Instr.buildSlice,Sem.run_bind,run_underlying hu,Result.andThen_ok,run_sizeOf w hinf]
      rw [if_neg (by omega)]
      have g1':∀ zz:Array Value,zz = zc → Instr.fill (fun i_1 => some (i_1 * i.size,i.size)) (Array.map (fun x => zz[x % zz.size]!) (Array.range (len * i.size))) xs = some c' := by
        rintro _ rfl
        exact g1
      by_cases q:len * i.size = 0
      · rw [if_pos q,Sem.run_bind,Sem.run_pure,Result.andThen_ok]
        try dsimp only
        rw [g1' #[] (by simp [zc,q])]
        simp only [newRow,Sem.run_bind,run_newObj,Result.andThen_ok,Sem.run_pure]
      · rw [if_neg q,Sem.run_bind,hzr,Result.andThen_ok]
        rw [Sem.run_bind,Sem.run_pure,Result.andThen_ok]
        try dsimp only
        rw [g1' zv.cells (by simp [zc,q])]
        simp only [newRow,Sem.run_bind,run_newObj,Result.andThen_ok,Sem.run_pure]
    obtain ⟨k1,k2,k3⟩ := newRow_good H (setAll (List.replicate len z) ps) i.size c' e (0,0) (okFr_zero _) g3.2.1 g3.2.2
    refine ⟨_,_,_,hrun,?_,k1,k2,k3⟩
    have hbs:bsz { w with heap := w.heap.push (.cells c' e) } w.heap.size = len * i.size := by
      rw [bsz_row (c := c') (e := e) (fr := (0,0)) (by show (w.heap.push _)[w.heap.size]? = _; simp),g3.1,g2]
    have := Rep.hsl (L := L.push (w.heap.size,0,i.size)) (w := { w with heap := w.heap.push (.cells c' e) }) (off := 0) (len := len) (cap := len) (L.push_new (w.heap.size,0,i.size)) (Nat.le_refl _)
      (by rw [hbs]; simp only [Nat.zero_add]; exact Nat.le_refl _)
    rw [H.len] at this
    simpa only [Nat.zero_mul,Nat.add_zero,Nat.zero_add] using this
  · cases he
end Go.Proofs.YtjpjeilfmjdhcaaDoor.E
/- The layer E, part 23 (ahead of part 16): what else is met. No condition. -/
namespace Go.Proofs.YtjpjeilfmjdhcaaDoor.E
set_option linter.unusedSimpArgs false
set_option linter.unusedVariables false
/-! ### cap of a slice that can have none -/
def evCap:V → Option Nat
  | .nils => some 0
  | .esl => some 0
  | _ => none
theorem cap_good {P:Program} {L:Loc} {h:List Ob} {w:World} (H:HRel L h w) {t e ty:TypeId} {ts:Array TypeId} {v:V} {x:Value} {n:Nat} (hu:P.underlying t = some (.slice e)) (ht:ts[0]? = some t) (r:Rep L w v x) (he:evCap v = some n) :
    Good P L w (Builtin.cap_ ts ty #[x]) (.int .i64 n) h := by
  have key:∀ base,(Builtin.cap_ ts ty #[.slice base 0 0]).run P w = .ok (.int .i64 0) w := by
    intro base
    unfold Builtin.cap_
    rw [ht]
    simp only [List.getElem?_toArray,List.getElem?_cons_zero,Sem.run_bind,run_underlying hu,Result.andThen_ok,Sem.run_pure,goInt]
    rfl
  unfold evCap at he
  split at he <;> first | (cases he; done) | skip
  · injection he with he; subst he; cases r
    exact .same H (key none) (.int _ _)
  · injection he with he; subst he; cases r
    exact .same H (key _) (.int _ _)
/-! ### bytes that are (also) a string's -/
def evStrish (h:List Ob):V → Option V
  | .hsl id off len => if aliveB h id then some (.hsl id off len) else none
  | _ => none
theorem freeze_put {w:World} {b o:Nat} {c:Array Value} {e:TypeId} {fr:Nat × Nat} (h:w.heap[b]? = some (.cells c e fr)):∃ fr',w.freeze ⟨b,o,none⟩ 1 = put w b (.cells c e fr') ∧ (okFr fr c.size → o = c.size → okFr fr' c.size) := by
  obtain ⟨lo,hi⟩ := fr
  have hb := (Array.getElem?_eq_some_iff.1 h).1
  have hbv := (Array.getElem?_eq_some_iff.1 h).2
  refine ⟨if lo == hi then (o,o + 1) else (min lo o,max hi (o + 1)),?_,?_⟩
  · unfold World.freeze put
    rw [if_neg (by decide)]
    congr 1
    apply Array.ext_getElem?
    intro k
    rw [Array.getElem?_modify,Array.getElem?_setIfInBounds]
    split
    · rename_i q; subst q
      rw [h]
      simp [hb]
    · rfl
  · rintro ⟨q1,q2⟩ rfl
    simp only at q1 q2
    split
    · exact ⟨by simp,fun o ho => by simp; omega⟩
    · rename_i hne
      have hne':lo ≠ hi := by simpa using hne
      have hlo:c.size ≤ lo := by
        rcases Nat.lt_or_ge lo c.size with z | z
        · exact absurd ⟨Nat.le_refl _,by omega⟩ (q2 lo z)
        · exact z
      refine ⟨by simp; omega,fun o ho => ?_⟩
      simp only [Nat.min_def,Nat.max_def]
      split <;> split <;> omega
theorem strish_good {P:Program} {L:Loc} {h:List Ob} {w:World} (H:HRel L h w) {src e:TypeId} (hs:P.underlying src = some (.slice e)) (he8:P.underlying e = some (.int .u8)) {v r:V} {x:Value} (rep:Rep L w v x) (he:evStrish h v = some r) :
    Good P L w (convert src src x) r h := by
  unfold evStrish at he
  split at he
  · rename_i id off len
    split at he
    · rename_i hal
      injection he with he; subst he
      obtain ⟨p,hp⟩ := alive_at H hal
      have hid := H.lt id p hp
      rw [H.len] at hid
      cases hob:h[id]? with
      | none => rw [List.getElem?_eq_none_iff] at hob; omega
      | some ob =>
      cases rep with
      | hslD _ g => rw [hp] at g; cases g
      | @hsl _ _ _ cap b base sz g hc hz =>
        have hbl := H.mem _ _ _ _ g
        have run0:(convert src src (.slice (some ⟨b,base + off * sz,none⟩) len cap)).run P w = ((markStringish ⟨b,base + off * sz,none⟩).run P w).andThen fun _ w' => .ok (.slice (some ⟨b,base + off * sz,none⟩) len cap) w' := by
          simp only [convert,Sem.run_bind,run_underlying hs,run_underlying he8,Result.andThen_ok,beq_self_eq_true,Sem.run_pure]
        cases hw:w.heap[b]? with
        | none => rw [Array.getElem?_eq_none_iff] at hw; omega
        | some o =>
        have plain:∀ w',(markStringish ⟨b,base + off * sz,none⟩).run P w = .ok () w' → w' = w → Good P L w (convert src src (.slice (some ⟨b,base + off * sz,none⟩) len cap)) (.hsl id off len) h := by
          rintro w' hm rfl
          exact .same H (by rw [run0,hm]; rfl) (.hsl g hc hz)
        cases o with
        | cells c ee fr =>
          obtain ⟨fr',f1,f2⟩ := freeze_put (o := c.size) hw
          have hm:(markStringish ⟨b,base + off * sz,none⟩).run P w = .ok () (put w b (.cells c ee fr')) := by
            simp only [markStringish,Sem.run_bind,run_shape,Result.andThen_ok,World.shape?,hw]
            simp only [run_freeze,f1]
          have hfr:Fr (Own L) w (put w b (.cells c ee fr')) := fr_put ⟨id,_,g⟩ hw rfl
          have hset:h.set id ob = h := by
            apply List.ext_getElem?
            intro k
            by_cases q:id = k
            · subst q; rw [List.getElem?_set_self hid,hob]
            · rw [List.getElem?_set_ne q]
          have hH:HRel L (h.set id ob) (put w b (.cells c ee fr')) := by
            refine HRel.set H g hid (fun ⟨_,_,_,q⟩ => by simp [aliveB,q] at hal) hfr (fun k _ hk => put_other hk) ?_ (fun es s n q => by subst q; simp [aliveB,hob] at hal)
            have := H.obs id ob hob
            cases ob with
            | row es s =>
              obtain ⟨b1,base1,c1,e1,fr1,h1,h2,h3,h4,h5⟩ := this
              rw [g] at h1; injection h1 with h1; injection h1 with q1 q2; injection q2 with q2 q3; subst q1; subst q2; subst q3
              rw [hw] at h2; injection h2 with h2; injection h2 with q1 q2 q3; subst q1; subst q2; subst q3
              exact ⟨b,base,c,ee,fr',g,put_same hbl,f2 h3 rfl,h4,fun i j x y a1 a2 => let ⟨v,z1,z2⟩ := h5 i j x y a1 a2; ⟨v,z1,H.step_rep z2 hfr (Ext.refl L w)⟩⟩
            | map ents clock =>
              obtain ⟨b1,base1,sz1,mes,h1,h2,_⟩ := this
              rw [g] at h1; injection h1 with h1; injection h1 with q1 q2; subst q1
              rw [hw] at h2; cases h2
            | siter l pos =>
              obtain ⟨b1,sz1,h1,h2⟩ := this
              rw [g] at h1; injection h1 with h1; injection h1 with q1 q2; subst q1
              rw [hw] at h2; cases h2
            | miter m s1 s2 s3 =>
              obtain ⟨b1,sz1,mb,h1,h2,_⟩ := this
              rw [g] at h1; injection h1 with h1; injection h1 with q1 q2; subst q1
              rw [hw] at h2; cases h2
            | dead => rw [show L.at_ id = none from this] at g; cases g
            | was es s n => trivial
            | pin g' k zs e => simp [aliveB,hob] at hal
          rw [hset] at hH
          refine ⟨_,_,L,by rw [run0,hm]; rfl,?_,hH,hfr,Ext.refl _ _⟩
          exact H.step_rep (.hsl g hc hz) hfr (Ext.refl L w)
        | _ => exact plain w (by simp [markStringish,World.shape?,hw]) rfl
    · cases he
  · cases he
/-! ### append of so many zero bytes -/
def zeroStr (n:Nat):List UInt8 := List.replicate n 0
def evAppZ (h:List Ob) (d:V) (n:Int):Option (V × List Ob) :=
  if 0 ≤ n ∧ n ≤ 140737488355328 then evApp h 1 1 d (List.replicate n.toNat (.int .u8 0)) else none
theorem run_appZ {P:Program} {w:World} {ts:Array TypeId} {ty t e t2:TypeId} {i:TypeInfo} {k2 kk:IntKind} (ht:ts[0]? = some t) (ht2:ts[1]? = some t2) (hu:P.underlying t = some (.slice e)) (hu2:P.underlying t2 = some (.int k2))
    (hi:P.info? e = some i) (hz:i.zero = some (.int .u8 0)) (hs:i.size = 1) (hb:i.bytes = 1) {base:Option Addr} {len cap n:Nat} (hn:n ≤ 140737488355328) (hbound:len + n ≤ roomMax) :
    (Builtin.append_ ts ty #[.slice base len cap,.int kk n]).run P w = (Builtin.append_ #[t,t] ty #[.slice base len cap,.string ⟨(zeroStr n).toArray⟩]).run P w := by
  have hzint:(match (TypeDesc.int k2) with | .int _ => true | _ => false) = true := rfl
  have hzint2:(match (TypeDesc.slice e) with | .int _ => true | _ => false) = false := rfl
  have hwrap:IntKind.i64.wrap (n:Int) = n := by rw [IntKind.wrap_i64]; omega
  have hti:∀ w',(typeInfo e).run P w' = .ok i w' := fun w' => by simp [typeInfo,hi]
  have hzv:∀ w',(zeroValue e).run P w' = .ok (.int .u8 0) w' := fun w' => by simp [zeroValue,typeInfo,hi,hz]
  have hlz:∀ w',(Builtin.lenOf (.string ⟨(zeroStr n).toArray⟩)).run P w' = .ok n w' := fun w' => by simp [Builtin.lenOf,zeroStr,ByteArray.size]
  have hfz:∀ w',(Builtin.firstCells 1 n (.string ⟨(zeroStr n).toArray⟩)).run P w' = .ok (Array.replicate n (.int .u8 0)) w' := fun w' => by
    have:((⟨(zeroStr n).toArray⟩:ByteArray).extract 0 n).data.map (fun b => Value.int .u8 b.toNat) = Array.replicate n (.int .u8 0) := by
      have h1:(⟨(zeroStr n).toArray⟩:ByteArray).extract 0 n = ⟨(zeroStr n).toArray⟩ := by
        have:(⟨(zeroStr n).toArray⟩:ByteArray).size = n := by simp [zeroStr,ByteArray.size]
        conv => lhs; arg 3; rw [← this]
        exact ByteArray.extract_zero_size
      rw [h1]
      simp [zeroStr]
    simp only [Builtin.firstCells,Sem.run_pure,this]
  have hzc:Builtin.zeroCells (Value.int .u8 0).cells n = Array.replicate n (.int .u8 0) := by
    apply Array.ext'
    simp [Builtin.zeroCells,Value.cells]
    apply List.ext_getElem?
    intro k
    simp
    rcases Nat.lt_or_ge k n with q | q
    · simp [List.getElem?_range,q,Nat.mod_one]
    · simp [List.getElem?_eq_none,q]
  have hl0:¬ (n:Int) < 0 := by omega
  have hl1:¬ (n:Int) * (i.bytes:Int) > 2 ^ 48 := by rw [hb]; simp; omega
  unfold Builtin.append_
  rw [ht,ht2]
  simp only [List.getElem?_toArray,List.getElem?_cons_zero,List.getElem?_cons_succ,Sem.run_bind,run_underlying hu,run_underlying hu2,Result.andThen_ok,Sem.run_pure,run_sizeOf w hi,hzint,hzint2,Bool.false_eq_true,if_false,if_true,hlz,asInt,asIntOf,hwrap,hs]
  rw [if_neg hl0]
  simp only [Sem.run_bind,Sem.run_pure,Result.andThen_ok,hti]
  rw [if_neg hl1]
  simp only [Sem.run_bind,Sem.run_pure,Result.andThen_ok,Int.toNat_natCast]
  have hA:∀ w',(if (!true) = true then Builtin.firstCells 1 n (Value.int kk ↑n) else if n * 1 = 0 then pure #[] else do
        let z ← zeroValue e
        pure (Builtin.zeroCells z.cells n):Sem (Array Value)).run P w' = .ok (Array.replicate n (.int .u8 0)) w' := by
    intro w'
    rw [if_neg (by decide)]
    split
    · rename_i q
      have:n = 0 := by omega
      subst this; simp
    · simp only [Sem.run_bind,hzv,Result.andThen_ok,Sem.run_pure,hzc]
  have hB:∀ w',(if (!false) = true then Builtin.firstCells 1 n (Value.string { data := (zeroStr n).toArray }) else if n * 1 = 0 then pure #[] else do
        let z ← zeroValue e
        pure (Builtin.zeroCells z.cells n):Sem (Array Value)).run P w' = .ok (Array.replicate n (.int .u8 0)) w' := by
    intro w'
    rw [if_pos (by decide)]
    exact hfz w'
  by_cases hc:len + n ≤ cap
  · rw [if_pos hc,if_pos hc,Sem.run_bind,hA,Result.andThen_ok]
    conv => rhs; rw [Sem.run_bind,hB,Result.andThen_ok]
  · have hmax:(IntKind.i64.max:Int) = 9223372036854775807 := by decide
    have hr:roomMax = 140737488355328 := rfl
    have hfit := growslice_fits (need := len + n) (old := cap) (bytes := i.bytes) (by omega) (by rw [hb]; omega)
    rw [if_neg hc,if_neg hc,Sem.run_bind,hti,Result.andThen_ok]
    conv => rhs; rw [Sem.run_bind,hti,Result.andThen_ok]
    try dsimp only
    rw [if_neg (by rw [hmax]; omega)]
    conv => rhs; rw [if_neg (by rw [hmax]; omega)]
    rw [Sem.run_bind,hti,Result.andThen_ok]
    conv => rhs; rw [Sem.run_bind,hti,Result.andThen_ok]
    try dsimp only
    rw [if_neg (by omega)]
    conv => rhs; rw [if_neg (by omega)]
    rw [Sem.run_bind]
    conv => rhs; rw [Sem.run_bind]
    congr 1
    funext c w1
    rw [Sem.run_bind]
    conv => rhs; rw [Sem.run_bind]
    congr 1
    funext i1 w2
    rw [Sem.run_bind]
    conv => rhs; rw [Sem.run_bind]
    congr 1
    funext u w3
    rw [Sem.run_bind]
    conv => rhs; rw [Sem.run_bind]
    congr 1
    funext old w4
    rw [Sem.run_bind,hA,Result.andThen_ok]
    conv => rhs; rw [Sem.run_bind,hB,Result.andThen_ok]
theorem appZ_good {P:Program} {L:Loc} {h h':List Ob} {w:World} (H:HRel L h w) {ts:Array TypeId} {ty t e t2:TypeId} {i:TypeInfo} {k2 kk:IntKind} (ht:ts[0]? = some t) (ht2:ts[1]? = some t2) (hu:P.underlying t = some (.slice e)) (hu2:P.underlying t2 = some (.int k2))
    (hi:P.info? e = some i) (hz:i.zero = some (.int .u8 0)) (hs:i.size = 1) (hb:i.bytes = 1) {d r:V} {n:Int} {x:Value} (rd:Rep L w d x) (he:evAppZ h d n = some (r,h')):Good P L w (Builtin.append_ ts ty #[x,.int kk n]) r h' := by
  unfold evAppZ at he
  split at he
  · rename_i hn
    obtain ⟨m,rfl⟩ := Int.eq_ofNat_of_zero_le hn.1
    simp only [Int.toNat_natCast] at he
    have T:AppT P #[t,t] t e t i (.int .u8 0) (.slice e) := ⟨rfl,rfl,hu,hu,(fun _ q => by cases q),hi,hz,(by omega),(by rw [hs]; rfl),(by omega)⟩
    have hc:conts h i.size (.str (zeroStr m)) = some (List.replicate m (.int .u8 0)) := by
      simp [conts,hs,zeroStr]
    have he':evApp h i.size i.bytes d (List.replicate m (.int .u8 0)) = some (r,h') := by rw [hs,hb]; exact he
    have g := app_good (P := P) (ty := ty) H T rd (.str (zeroStr m)) (contsW_of hc) he'
    have hm:m ≤ 140737488355328 := by omega
    have fin:∀ base len cap,x = .slice base len cap → len + m ≤ roomMax → Good P L w (Builtin.append_ ts ty #[x,.int kk m]) r h' := by
      rintro base len cap rfl hl
      obtain ⟨y,w',L',g1,g2⟩ := g
      exact ⟨y,w',L',by rw [run_appZ ht ht2 hu hu2 hi hz hs hb hm hl]; exact g1,g2⟩
    unfold evApp at he
    split at he
    · cases rd; exact fin _ _ _ rfl (by unfold roomMax; omega)
    · cases rd; exact fin _ _ _ rfl (by unfold roomMax; omega)
    · rename_i id off len
      split at he
      · rename_i ds s hob
        split at he
        · rename_i hh
          obtain ⟨b,base,c,ee,fr,h1,h2,h3,h4,h5⟩ := H.obs id _ hob
          cases rd with
          | @hsl _ _ _ cap b1 base1 s1 g hcap hz =>
            have := hh.2.2
            simp only [List.length_replicate,Nat.mul_one] at this
            exact fin _ _ _ rfl this
          | hslD _ g => rw [h1] at g; cases g
        · cases he
      · cases he
    · cases he
  · cases he
/-! ### A string's characters, one by one -/
def evRangeS (h:List Ob):V → Option (V × List Ob)
  | .str l => some (.ptr h.length 0 0,h ++ [.siter l 0])
  | _ => none
theorem rangeS_good {P:Program} {L:Loc} {h h':List Ob} {w:World} (H:HRel L h w) {t:TypeId} (hu:P.underlying t = some .string) {v r:V} {x:Value} (rep:Rep L w v x) (he:evRangeS h v = some (r,h')):Good P L w (Instr.range t x) r h' := by
  unfold evRangeS at he
  split at he
  · rename_i l
    injection he with he; injection he with he1 he2; subst he1; subst he2
    cases rep
    have fr := fr_alloc (Own L) w (.stringIter ⟨l.toArray⟩ 0)
    have ex := ext_push L w w.heap.size 0 1 (Nat.le_refl _)
    refine ⟨.pointer (some ⟨w.heap.size,0,none⟩),_,L.push (w.heap.size,0,1),?_,?_,HRel.push H _ _ 0 1 ⟨w.heap.size,1,L.push_new _,by show (w.heap.push _)[w.heap.size]? = _; simp⟩,fr,ex⟩
    · simp only [Instr.range,Sem.run_bind,run_underlying hu,Result.andThen_ok,Sem.run_pure,run_newObj]
    · have := Rep.ptr (i := 0) (j := 0) (w := { w with heap := w.heap.push (.stringIter ⟨l.toArray⟩ 0) }) (L.push_new (w.heap.size,0,1))
      rw [H.len] at this
      exact this
  · cases he
def evNextS (h:List Ob):V → Option (V × List Ob)
  | .ptr id 0 0 => match h[id]? with
    | some (.siter l pos) => if pos < l.length then
        some (.tup [.bool true,.int .i64 pos,.int .i32 (Utf8.decode ⟨l.toArray⟩ pos).1],h.set id (.siter l (pos + (Utf8.decode ⟨l.toArray⟩ pos).2)))
      else some (.tup [.bool false],h)
    | _ => none
  | _ => none
theorem run_getObj_s {P:Program} {w:World} {b:Nat} {s:ByteArray} {pos:Nat} (h:w.heap[b]? = some (.stringIter s pos)):(getObj b).run P w = .ok (.stringIter s pos) w := by
  simp only [getObj,Sem.run,h]
theorem run_setObj_s {P:Program} {w:World} {b:Nat} {s:ByteArray} {pos:Nat} (h:w.heap[b]? = some (.stringIter s pos)) (o:Obj):(setObj b o).run P w = .ok () (E.put w b o) := by
  simp only [setObj,Sem.run,h]; rfl
theorem nextS_good {P:Program} {L:Loc} {h h':List Ob} {w:World} (H:HRel L h w) {ty:TypeId} {v r:V} {x:Value} (rep:Rep L w v x) (he:evNextS h v = some (r,h')):Good P L w (Instr.next x true ty) r h' := by
  unfold evNextS at he
  split at he
  · rename_i id
    split at he
    · rename_i l pos hob
      have hid:id < h.length := (List.getElem?_eq_some_iff.1 hob).1
      obtain ⟨b,sz,h1,h2⟩ := H.obs id _ hob
      have hbl := (Array.getElem?_eq_some_iff.1 h2).1
      cases rep with
      | ptrD _ g => rw [h1] at g; cases g
      | ptr g =>
        rw [h1] at g; injection g with g; injection g with q1 q2; injection q2 with q2 q3; subst q1; subst q2
        have hsize:(⟨l.toArray⟩:ByteArray).size = l.length := by simp [ByteArray.size]
        split at he
        · rename_i hp
          injection he with he; injection he with he1 he2; subst he1; subst he2
          have hfr:Fr (Own L) w (put w b (.stringIter ⟨l.toArray⟩ (pos + (Utf8.decode ⟨l.toArray⟩ pos).2))) := by
            refine ⟨rfl,rfl,rfl,by rw [put_size]; exact Nat.le_refl _,fun k hk ho => put_other (fun q => ho (q ▸ ⟨id,_,h1⟩)),fun k hk => ?_⟩
            by_cases q:k = b
            · subst q
              unfold bsz
              rw [put_same hbl,h2]
            · exact bsz_of_heap (put_other q)
          refine ⟨.tuple #[.bool true,.int .i64 pos,.int .i32 (Utf8.decode ⟨l.toArray⟩ pos).1],_,L,?_,?_,HRel.set H h1 hid (fun ⟨_,_,_,q⟩ => by rw [hob] at q; cases q) hfr (fun k _ hk => put_other hk) ⟨b,sz,h1,put_same hbl⟩,hfr,Ext.refl _ _⟩
          · simp only [Instr.next,Sem.run_bind,run_getObj_s h2,Result.andThen_ok,Sem.run_pure,hsize,hp,if_true,Nat.zero_mul,Nat.add_zero]
            simp only [run_setObj_s h2,Result.andThen_ok,goInt]
          · refine .tup _ rfl (fun k c hk => ?_)
            match k,hk with
            | 0,hk => simp at hk; subst hk; exact .bool _
            | 1,hk => simp at hk; subst hk; exact .int _ _
            | 2,hk => simp at hk; subst hk; exact .int _ _
            | k + 3,hk => simp at hk
        · rename_i hp
          injection he with he; injection he with he1 he2; subst he1; subst he2
          refine .same H (x := .tuple #[.bool false]) ?_ ?_
          · simp only [Instr.next,Sem.run_bind,run_getObj_s h2,Result.andThen_ok,Sem.run_pure,hsize,hp,if_false,Nat.zero_mul,Nat.add_zero]
          · refine .tup _ rfl (fun k c hk => ?_)
            match k,hk with
            | 0,hk => simp at hk; subst hk; exact .bool _
            | k + 1,hk => simp at hk
    · cases he
  · cases he
end Go.Proofs.YtjpjeilfmjdhcaaDoor.E
/- The layer E, part 29: bytes handed to what has no body (comparing, finding a byte). No condition. -/
namespace Go.Proofs.YtjpjeilfmjdhcaaDoor.E
set_option linter.unusedSimpArgs false
set_option linter.unusedVariables false
def evBytes (h:List Ob) (v:V):Option (List UInt8) := match v with
  | .str l => some l
  | v => (conts h 1 v).bind (mapAll byteOf)
theorem add_add (a:Addr) (i:Nat):(a.add i).add 1 = a.add (i + 1) := by
  obtain ⟨b,o,x⟩ := a
  unfold Addr.add
  by_cases h:i = 0
  · subst h; simp
  · simp only [h,if_false]
    simp
    omega
theorem cellsFrom_ext {P:Program} {w:World} (a:Addr):∀ (n i:Nat) (acc r:Array Value) (w':World),(loadCellsFrom a i n acc).run P w = .ok r w' → ∃ vs:List Value,r = acc ++ vs.toArray ∧ vs.length = n
  | 0,i,acc,r,w',h => by
    simp only [loadCellsFrom,Sem.run_pure] at h
    injection h with h1 h2
    exact ⟨[],by simp [h1],rfl⟩
  | n + 1,i,acc,r,w',h => by
    simp only [loadCellsFrom,Sem.run_bind] at h
    cases hv:(load (a.add i)).run P w with
    | halt x y => rw [hv] at h; simp [Result.andThen] at h
    | ok v w1 =>
      rw [hv] at h
      simp only [Result.andThen_ok] at h
      have hw:w1 = w := by
        rw [run_load] at hv
        split at hv
        · injection hv with _ e; exact e.symm
        · split at hv
          · injection hv with _ e; exact e.symm
          · cases hv
      subst hw
      obtain ⟨vs,h1,h2⟩ := cellsFrom_ext a n (i + 1) _ r w' h
      exact ⟨v :: vs,by rw [h1]; simp,by simp [h2]⟩
theorem loadBytes_of {P:Program} {w:World} (a:Addr):∀ (ns:List Int) (i:Nat) (acc:Array Value) (b:ByteArray),(loadCellsFrom a i ns.length acc).run P w = .ok (acc ++ (ns.map (Value.int .u8)).toArray) w →
    (Extern.Bytes.loadBytes (a.add i) ns.length b).run P w = .ok (ns.foldl (fun r n => r.push (UInt8.ofNat n.toNat)) b) w
  | [],i,acc,b,h => by simp [Extern.Bytes.loadBytes]
  | n :: ns,i,acc,b,h => by
    simp only [List.length_cons,loadCellsFrom,Sem.run_bind] at h
    cases hv:(load (a.add i)).run P w with
    | halt x y => rw [hv] at h; simp [Result.andThen] at h
    | ok v w1 =>
      rw [hv] at h
      simp only [Result.andThen_ok] at h
      have hw:w1 = w := by
        rw [run_load] at hv
        split at hv
        · injection hv with _ e; exact e.symm
        · split at hv
          · injection hv with _ e; exact e.symm
          · cases hv
      subst hw
      obtain ⟨vs,h1,h2⟩ := cellsFrom_ext a ns.length (i + 1) _ _ _ h
      have h3:v :: vs = (n :: ns).map (Value.int .u8) := by
        have := congrArg Array.toList h1
        simp only [Array.toList_append,Array.toList_push,List.append_assoc,List.singleton_append] at this
        exact (List.append_cancel_left this).symm
      simp only [List.map_cons,List.cons.injEq] at h3
      obtain ⟨rfl,h4⟩ := h3
      have ih := loadBytes_of a ns (i + 1) (acc.push (.int .u8 n)) (b.push (UInt8.ofNat n.toNat)) (by rw [h]; simp)
      simp only [List.length_cons,Extern.Bytes.loadBytes,Sem.run_bind,hv,Result.andThen_ok,List.foldl_cons,add_add]
      exact ih
theorem bytesOf_good {P:Program} {L:Loc} {h:List Ob} {w:World} (H:HRel L h w) {v:V} {x:Value} {l:List UInt8} (rep:Rep L w v x) (he:evBytes h v = some l):(Extern.Bytes.bytesOf x).run P w = .ok ⟨l.toArray⟩ w := by
  have main:(∀ l,v ≠ .str l) → (conts h 1 v).bind (mapAll byteOf) = some l → (Extern.Bytes.bytesOf x).run P w = .ok ⟨l.toArray⟩ w := by
    intro hv he
    simp only [Option.bind_eq_some_iff] at he
    obtain ⟨es,hc,hm⟩ := he
    obtain ⟨hlen,hfl,fn,hfn,hrn⟩ := conts_spec (P := P) H rep hc
    obtain ⟨base,cap,rfl⟩ := conts_slice H rep hc hv
    obtain ⟨g1,g2⟩ := mapAll_get hm
    cases base with
    | none =>
      have h0:es = [] := by
        generalize hg:es.length = n at rep
        cases rep with
        | nils => exact List.length_eq_zero_iff.1 hg
        | hslD _ q q1 =>
          simp only [conts] at hc
          split at hc
          · rename_i es0 s hob
            obtain ⟨b,base,c,e,fr,h1,_⟩ := H.obs _ _ hob
            rw [q] at h1; cases h1
          · cases hc
        | _ => simp [conts] at hc
      subst h0
      simp [mapAll] at hm
      subst hm
      simp [Extern.Bytes.bytesOf]
      rfl
    | some a =>
      have hl := hfn es.length w (Nat.le_refl _) rfl
      simp only [Builtin.firstCells,Nat.mul_one] at hl
      have hns:∃ ns:List Int,(List.range es.length).map fn = ns.map (Value.int .u8) ∧ ns.map (fun n => UInt8.ofNat n.toNat) = l := by
        refine ⟨es.map fun e => (match e with | .int _ n => n | _ => 0),?_,?_⟩
        · apply List.ext_getElem?
          intro k
          by_cases hk:k < es.length
          · have hek:es[k]? = some es[k] := List.getElem?_eq_getElem hk
            obtain ⟨y,hy⟩:∃ y,l[k]? = some y := ⟨l[k],List.getElem?_eq_getElem (by omega)⟩
            obtain ⟨z,q1,q2⟩ := g2 k y hy
            rw [hek] at q1; injection q1 with q1; subst q1
            have:∃ n,es[k] = .int .u8 n := by
              generalize es[k] = z at q2
              cases z <;> simp [byteOf] at q2
              rename_i kk n
              cases kk <;> simp [byteOf] at q2
              exact ⟨n,rfl⟩
            obtain ⟨n,hn⟩ := this
            have hr := hrn k 0 es[k] es[k] hek (by rw [hn]; rfl)
            rw [hn] at hr
            simp only [Nat.mul_one,Nat.add_zero] at hr
            have hfk:fn k = .int .u8 n := hr.int_inv
            rw [List.getElem?_map,List.getElem?_range hk,List.getElem?_map,List.getElem?_map,hek,hn]
            simp [hfk]
          · rw [List.getElem?_eq_none (by simp; omega),List.getElem?_eq_none (by simp; omega)]
        · apply List.ext_getElem?
          intro k
          by_cases hk:k < es.length
          · have hek:es[k]? = some es[k] := List.getElem?_eq_getElem hk
            obtain ⟨y,hy⟩:∃ y,l[k]? = some y := ⟨l[k],List.getElem?_eq_getElem (by omega)⟩
            obtain ⟨z,q1,q2⟩ := g2 k y hy
            rw [hek] at q1; injection q1 with q1; subst q1
            rw [List.getElem?_map,List.getElem?_map,hek,hy]
            generalize es[k] = z at q2
            cases z <;> simp [byteOf] at q2
            rename_i kk n
            cases kk <;> simp [byteOf] at q2
            simp [q2]
          · rw [List.getElem?_eq_none (by simp; omega),List.getElem?_eq_none (by omega)]
      obtain ⟨ns,n1,n2⟩ := hns
      rw [n1] at hl
      have hnl:ns.length = es.length := by
        have := congrArg List.length n1
        simpa using this.symm
      have := loadBytes_of (P := P) (w := w) a ns 0 #[] .empty (by rw [hnl]; simpa [Go.loadCells] using hl)
      rw [hnl] at this
      have a0:a.add 0 = a := by obtain ⟨b,o,x⟩ := a; simp [Addr.add]
      rw [a0] at this
      simp only [Extern.Bytes.bytesOf]
      rw [this,foldl_push_bytes,n2]
      simp [ByteArray.empty,ByteArray.emptyWithCapacity]
      rfl
  unfold evBytes at he
  split at he
  · injection he with he; subst he; cases rep; simp [Extern.Bytes.bytesOf]
  · rename_i hne
    exact main (fun l q => hne l q) he
theorem cmpB_run {P:Program} {L:Loc} {h:List Ob} {w:World} (H:HRel L h w) {u v:V} {x y:Value} {l m:List UInt8} (ru:Rep L w u x) (rv:Rep L w v y) (hu:evBytes h u = some l) (hv:evBytes h v = some m) :
    (Extern.BytealgCompare.compare #[x,y]).run P w = .ok (.int .i64 (Lib.compareBytes l m)) w := by
  change Sem.run P (do pure (goInt (Extern.BytealgCompare.cmp (← Extern.Bytes.bytesOf x) (← Extern.Bytes.bytesOf y)))) w = _
  simp only [Sem.run_bind,bytesOf_good H ru hu,bytesOf_good H rv hv,Result.andThen_ok,Sem.run_pure]
  rw [Lib.cmp_eq]
  rfl
theorem idxB_run {P:Program} {L:Loc} {h:List Ob} {w:World} (H:HRel L h w) {u:V} {x:Value} {l:List UInt8} {c:Int} (ru:Rep L w u x) (hu:evBytes h u = some l) :
    (Extern.BytealgIndexByte.indexByte #[x,.int .u8 c]).run P w = .ok (.int .i64 (Lib.indexByte l c.toNat.toUInt8)) w := by
  have := Lib.run_indexByteString (P := P) ⟨l.toArray⟩ c w
  change Sem.run P (do
    let b ← Extern.Bytes.bytesOf (.string ⟨l.toArray⟩)
    let c' ← Extern.Bytes.asByte (.int .u8 c)
    match (List.range b.size).find? fun i => b[i]! == c' with
    | some i => pure (goInt i)
    | none => pure (goInt (-1))) w = _ at this
  change Sem.run P (do
    let b ← Extern.Bytes.bytesOf x
    let c' ← Extern.Bytes.asByte (.int .u8 c)
    match (List.range b.size).find? fun i => b[i]! == c' with
    | some i => pure (goInt i)
    | none => pure (goInt (-1))) w = _
  rw [Sem.run_bind] at this ⊢
  rw [bytesOf_good H ru hu]
  simpa [Extern.Bytes.bytesOf] using this
theorem cntB_run {P:Program} {L:Loc} {h:List Ob} {w:World} (H:HRel L h w) {u:V} {x:Value} {l:List UInt8} {c:Int} (ru:Rep L w u x) (hu:evBytes h u = some l) :
    (Extern.BytealgCount.count #[x,.int .u8 c]).run P w = .ok (.int .i64 (Lib.countByte l c.toNat.toUInt8)) w := by
  have := Lib.run_countString (P := P) ⟨l.toArray⟩ c w
  change Sem.run P (do
    let b ← Extern.Bytes.bytesOf (.string ⟨l.toArray⟩)
    let c' ← Extern.Bytes.asByte (.int .u8 c)
    pure (goInt (b.foldl (fun n x => if x == c' then n + 1 else n) (0:Nat)))) w = _ at this
  change Sem.run P (do
    let b ← Extern.Bytes.bytesOf x
    let c' ← Extern.Bytes.asByte (.int .u8 c)
    pure (goInt (b.foldl (fun n x => if x == c' then n + 1 else n) (0:Nat)))) w = _
  rw [Sem.run_bind] at this ⊢
  rw [bytesOf_good H ru hu]
  simpa [Extern.Bytes.bytesOf] using this
end Go.Proofs.YtjpjeilfmjdhcaaDoor.E
/- The layer E, part 30: a map's entries, one by one, in whatever order. No condition. -/
namespace Go.Proofs.YtjpjeilfmjdhcaaDoor.E
set_option linter.unusedSimpArgs false
set_option linter.unusedVariables false
def evRangeM (h:List Ob):V → Option (V × List Ob)
  | .nilm => some (.ptr h.length 0 0,h ++ [.miter none 0 [] 0])
  | .mp id => match h[id]? with
    | some (.map _ clock) => some (.ptr h.length 0 0,h ++ [.miter (some id) clock [] clock])
    | _ => none
  | _ => none
theorem rangeM_good {P:Program} {L:Loc} {h h':List Ob} {w:World} (H:HRel L h w) {t kT eT:TypeId} (hu:P.underlying t = some (.map kT eT)) {v r:V} {x:Value} (rep:Rep L w v x) (he:evRangeM h v = some (r,h')):Good P L w (Instr.range t x) r h' := by
  have fin:∀ (m:Option Nat) (mb:Option Nat) (c:Nat),(match m,mb with | none,none => True | some i,some q => i < L.len ∧ (L.at_ i = none ∨ ∃ p,L.at_ i = some (q,p)) | _,_ => False) →
      ∃ w' L',w' = { w with heap := w.heap.push (.mapIter mb c #[] c) } ∧ Rep L' w' (.ptr h.length 0 0) (.pointer (some ⟨w.heap.size,0,none⟩)) ∧ HRel L' (h ++ [.miter m c [] c]) w' ∧ Fr (Own L) w w' ∧ Ext L w L' := by
    intro m mb c hm
    have fr := fr_alloc (Own L) w (.mapIter mb c #[] c)
    have ex := ext_push L w w.heap.size 0 1 (Nat.le_refl _)
    refine ⟨_,L.push (w.heap.size,0,1),rfl,?_,HRel.push H _ _ 0 1 ⟨w.heap.size,1,mb,L.push_new _,(by show (w.heap.push _)[w.heap.size]? = _; simp),?_⟩,fr,ex⟩
    · have := Rep.ptr (i := 0) (j := 0) (w := { w with heap := w.heap.push (.mapIter mb c #[] c) }) (L.push_new (w.heap.size,0,1))
      rw [H.len] at this
      exact this
    · cases m <;> cases mb <;> simp only at hm ⊢
      refine ⟨by simp only [Loc.push]; omega,?_⟩
      rw [L.push_old _ hm.1]; exact hm.2
  unfold evRangeM at he
  split at he
  · injection he with he; injection he with he1 he2; subst he1; subst he2
    cases rep
    obtain ⟨w',L',rfl,g⟩ := fin none none 0 trivial
    refine ⟨_,_,L',?_,g⟩
    simp only [Instr.range,Sem.run_bind,run_underlying hu,Result.andThen_ok,Sem.run_pure,run_newObj]
  · rename_i id
    split at he
    · rename_i ents clock hob
      injection he with he; injection he with he1 he2; subst he1; subst he2
      obtain ⟨b,base,sz,mes,h1,h2,h3,h4⟩ := H.obs id _ hob
      cases rep with
      | mp g =>
        rw [h1] at g; injection g with g; injection g with q1 q2; subst q1
        obtain ⟨w',L',rfl,g⟩ := fin (some id) (some b) clock ⟨H.lt _ _ h1,.inr ⟨_,h1⟩⟩
        refine ⟨_,_,L',?_,g⟩
        simp only [Instr.range,Sem.run_bind,run_underlying hu,Result.andThen_ok,Sem.run_pure,run_getObj_map h2,run_newObj]
      | mpD _ g => rw [h1] at g; cases g
    · cases he
  · cases he
/-- What the next entry may be: each a value, and memory behind it. -/
def evNextM (h:List Ob):V → Option (List (V × List Ob))
  | .ptr id 0 0 => match h[id]? with
    | some (.miter none _ _ _) => some [(.tup [.bool false],h)]
    | some (.miter (some m) since seen stepped) => match h[m]? with
      | some (.map ents clock) =>
        if (!seen.isEmpty && !ents.isEmpty && ents.all fun e => decide (stepped ≤ e.2.2)) then none else
          let left := ents.filter fun e => !seen.contains e.2.2
          let old := left.filter fun e => decide (e.2.2 < since)
          let new := left.filter fun e => decide (since ≤ e.2.2)
          some ((if old.isEmpty then [(.tup [.bool false],h)] else []) ++ (old ++ new).map fun e => (.tup [.bool true,e.1,e.2.1],h.set id (.miter (some m) since (seen ++ [e.2.2]) clock)))
      | _ => none
    | _ => none
  | _ => none
theorem EntsRep.cons {L:Loc} {w:World} {p:V × V × Nat} {ents:List (V × V × Nat)} {m:MapEntry} {mes:List MapEntry} (hk:Rep L w p.1 m.key) (hv:Rep L w p.2.1 m.val) (hb:m.born = p.2.2) (h:EntsRep L w ents mes):EntsRep L w (p :: ents) (m :: mes) := by
  refine ⟨by simp [h.1],fun i k v t hi => ?_⟩
  cases i with
  | zero =>
    simp only [List.getElem?_cons_zero,Option.some.injEq] at hi
    subst hi
    exact ⟨m,rfl,hk,hv,hb⟩
  | succ i => exact h.2 i k v t (by simpa using hi)
theorem EntsRep.head {L:Loc} {w:World} {p:V × V × Nat} {ents:List (V × V × Nat)} {m:MapEntry} {mes:List MapEntry} (h:EntsRep L w (p :: ents) (m :: mes)):Rep L w p.1 m.key ∧ Rep L w p.2.1 m.val ∧ m.born = p.2.2 := by
  obtain ⟨e,h1,h2,h3,h4⟩ := h.2 0 p.1 p.2.1 p.2.2 rfl
  simp only [List.getElem?_cons_zero,Option.some.injEq] at h1
  subst h1
  exact ⟨h2,h3,h4⟩
theorem EntsRep.filter {L:Loc} {w:World} (q:Nat → Bool):∀ {ents:List (V × V × Nat)} {mes:List MapEntry},EntsRep L w ents mes → EntsRep L w (ents.filter fun e => q e.2.2) (mes.filter fun e => q e.born)
  | [],[],h => h
  | [],m :: mes,h => by have := h.1; simp at this
  | p :: ents,[],h => by have := h.1; simp at this
  | p :: ents,m :: mes,h => by
    have ih := EntsRep.filter q h.tail
    obtain ⟨h1,h2,h3⟩ := h.head
    simp only [List.filter_cons,h3]
    split
    · exact .cons h1 h2 h3 ih
    · exact ih
theorem EntsRep.append {L:Loc} {w:World}:∀ {ents ents':List (V × V × Nat)} {mes mes':List MapEntry},EntsRep L w ents mes → EntsRep L w ents' mes' → EntsRep L w (ents ++ ents') (mes ++ mes')
  | [],_,[],_,_,h' => h'
  | [],_,m :: mes,_,h,_ => by have := h.1; simp at this
  | p :: ents,_,[],_,h,_ => by have := h.1; simp at this
  | p :: ents,_,m :: mes,_,h,h' => .cons h.head.1 h.head.2.1 h.head.2.2 (EntsRep.append h.tail h')
theorem EntsRep.all {L:Loc} {w:World} (q:Nat → Bool):∀ {ents:List (V × V × Nat)} {mes:List MapEntry},EntsRep L w ents mes → (ents.all fun e => q e.2.2) = (mes.all fun e => q e.born)
  | [],[],h => rfl
  | [],m :: mes,h => by have := h.1; simp at this
  | p :: ents,[],h => by have := h.1; simp at this
  | p :: ents,m :: mes,h => by
    simp only [List.all_cons,h.head.2.2,EntsRep.all q h.tail]
theorem run_getObj_i {P:Program} {w:World} {b:Nat} {m:Option Nat} {s:Nat} {seen:Array Nat} {c:Nat} (h:w.heap[b]? = some (.mapIter m s seen c)):(getObj b).run P w = .ok (.mapIter m s seen c) w := by
  simp only [getObj,Sem.run,h]
theorem run_setObj_i {P:Program} {w:World} {b:Nat} {m:Option Nat} {s:Nat} {seen:Array Nat} {c:Nat} (h:w.heap[b]? = some (.mapIter m s seen c)) (o:Obj):(setObj b o).run P w = .ok () (E.put w b o) := by
  simp only [setObj,Sem.run,h]; rfl
theorem fr_putIter {B:Nat → Prop} {w:World} {b:Nat} {m m':Option Nat} {s s':Nat} {seen seen':Array Nat} {c c':Nat} (hb:B b) (h:w.heap[b]? = some (.mapIter m s seen c)):Fr B w (put w b (.mapIter m' s' seen' c')) := by
  have hbl := (Array.getElem?_eq_some_iff.1 h).1
  refine ⟨rfl,rfl,rfl,by rw [put_size]; exact Nat.le_refl _,fun k hk ho => put_other (fun q => ho (q ▸ hb)),fun k hk => ?_⟩
  by_cases q:k = b
  · subst q
    unfold bsz
    rw [put_same hbl,h]
  · exact bsz_of_heap (put_other q)
/-- One candidate is taken. -/
theorem run_pick {P:Program} {w:World} (n:Nat) (hn:0 < n):∃ j w',(choose (.mapNext n)).run P w = .ok j w' ∧ j < n ∧ (w' = w ∨ w' = { w with drawn := w.drawn + 1 }) := by
  rw [run_choose]
  split
  · rename_i q
    exact ⟨0,w,rfl,hn,.inl rfl⟩
  · exact ⟨_,_,rfl,Nat.mod_lt _ hn,.inr rfl⟩
theorem nextM_good {P:Program} {L:Loc} {h:List Ob} {w:World} (H:HRel L h w) {ty:TypeId} {v:V} {x:Value} {outs:List (V × List Ob)} (rep:Rep L w v x) (he:evNextM h v = some outs) :
    ∃ p,p ∈ outs ∧ Good P L w (Instr.next x false ty) p.1 p.2 := by
  unfold evNextM at he
  split at he
  · rename_i id
    split at he
    · rename_i since seen stepped hob
      injection he with he; subst he
      obtain ⟨b,sz,mb,h1,h2,h3⟩ := H.obs id _ hob
      cases mb <;> simp only at h3
      refine ⟨_,List.mem_singleton.2 rfl,?_⟩
      cases rep with
      | ptrD _ g => rw [h1] at g; cases g
      | ptr g =>
        rw [h1] at g; injection g with g; injection g with q1 q2; injection q2 with q2 q3; subst q1; subst q2
        refine .same H (x := .tuple #[.bool false]) ?_ ?_
        · simp only [Instr.next,Sem.run_bind,run_getObj_i h2,Result.andThen_ok,Sem.run_pure,Nat.zero_mul,Nat.add_zero]
        · refine .tup _ rfl (fun k c hk => ?_)
          match k,hk with
          | 0,hk => simp at hk; subst hk; exact .bool _
          | k + 1,hk => simp at hk
    · rename_i m since seen stepped hob
      split at he
      · rename_i ents clock hmap
        split at he
        · cases he
        · rename_i hun
          injection he with he
          have hid:id < h.length := (List.getElem?_eq_some_iff.1 hob).1
          obtain ⟨b,sz,mb,h1,h2,h3⟩ := H.obs id _ hob
          obtain ⟨bm,basem,szm,mes,m1,m2,m3,m4⟩ := H.obs m _ hmap
          cases mb with
          | none => simp only at h3
          | some rm =>
          simp only at h3
          obtain ⟨hml,hmr⟩ := h3
          have hrm:rm = bm := by
            rcases hmr with q | ⟨p,q⟩
            · rw [m1] at q; cases q
            · rw [m1] at q; injection q with q; injection q with q _; exact q.symm
          subst hrm
          have hbl := (Array.getElem?_eq_some_iff.1 h2).1
          have E0:EntsRep L w ents mes.toList := ⟨by simpa using m3,fun i k v t hi => by simpa using m4 i k v t hi⟩
          cases rep with
          | ptrD _ g => rw [h1] at g; cases g
          | ptr g =>
          rw [h1] at g; injection g with g; injection g with q1 q2; injection q2 with q2 q3; subst q1; subst q2; subst q3
          have E1 := E0.filter (fun t => !seen.contains t)
          have E2 := E1.filter (fun t => decide (t < since))
          have E3 := E1.filter (fun t => decide (since ≤ t))
          have E4 := E2.append E3
          have hemp:mes.isEmpty = ents.isEmpty := by
            have := m3
            cases ents with
            | nil => simp at this; simp [this]
            | cons p ps => simp at this ⊢; intro q; simp [q] at this
          have hcond:(!seen.toArray.isEmpty && !mes.isEmpty && mes.all fun e => decide (e.born ≥ stepped)) = false := by
            have := E0.all (fun t => decide (stepped ≤ t))
            rw [hemp]
            have ha:(mes.all fun e => decide (e.born ≥ stepped)) = mes.toList.all fun e => decide (stepped ≤ e.born) := by
              simp
            rw [ha,← this]
            simpa using hun
          -- the candidates
          let oldM := (mes.filter fun e => !seen.toArray.contains e.born).filter fun e => decide (e.born < since)
          let newM := (mes.filter fun e => !seen.toArray.contains e.born).filter fun e => decide (e.born ≥ since)
          let C:Array (Option MapEntry) := (if oldM.isEmpty then #[none] else #[]) ++ (oldM ++ newM).map some
          have hoM:oldM.toList = (mes.toList.filter fun e => !seen.contains e.born).filter fun e => decide (e.born < since) := by simp [oldM]
          have hnM:newM.toList = (mes.toList.filter fun e => !seen.contains e.born).filter fun e => decide (since ≤ e.born) := by simp [newM]
          have hol:oldM.isEmpty = ((ents.filter fun e => !seen.contains e.2.2).filter fun e => decide (e.2.2 < since)).isEmpty := by
            have := E2.1
            rw [← hoM] at this
            cases hq:((ents.filter fun e => !seen.contains e.2.2).filter fun e => decide (e.2.2 < since)) with
            | nil => rw [hq] at this; simp at this; simp [this]
            | cons p ps => rw [hq] at this; simp at this ⊢; intro q; simp [q] at this
          have hpos:0 < C.size := by
            simp only [C,Array.size_append,Array.size_map]
            cases hq:oldM.isEmpty with
            | true => simp; omega
            | false =>
              have:oldM.size ≠ 0 := by simpa [Array.isEmpty] using hq
              omega
          obtain ⟨j,w1,hj1,hj2,hw1⟩ := run_pick (P := P) (w := w) C.size hpos
          have hcj:C[j]? = some C[j] := by simp [hj2]
          have hrun:(Instr.next (.pointer (some ⟨b,0 + 0 * sz + 0,none⟩)) false ty).run P w = (match C[j]? with
              | some (some e) => do setObj b (.mapIter (some rm) since (seen.toArray.push e.born) clock); pure (.tuple #[.bool true,e.key,e.val])
              | some none => pure (.tuple #[.bool false])
              | none => stuck "Next: no such candidate" : Sem Value).run P w1 := by
            simp only [Instr.next,Sem.run_bind,run_getObj_i h2,run_getObj_map m2,Result.andThen_ok,Sem.run_pure,Nat.zero_mul,Nat.add_zero]
            rw [hcond]
            simp only [Bool.false_eq_true,if_false,Sem.run_bind,Sem.run_pure,Result.andThen_ok]
            rw [hj1]
            simp only [Result.andThen_ok]
            rfl
          have fr1:Fr (Own L) w w1 := by rcases hw1 with rfl | rfl; exact Fr.refl _ _; exact fr_drew _ _
          have H1:HRel L h w1 := by rcases hw1 with rfl | rfl; exact H; exact H.drew
          have hheap:w1.heap = w.heap := by rcases hw1 with rfl | rfl <;> rfl
          have hmem:C[j] ∈ C.toList := by simp
          have hCl:C.toList = (if oldM.isEmpty then [none] else []) ++ (oldM.toList ++ newM.toList).map some := by
            simp only [C,Array.toList_append,Array.toList_map]
            congr 1
            split <;> rfl
          rw [hCl,List.mem_append] at hmem
          rcases hmem with hmem | hmem
          · split at hmem
            · rename_i ho
              simp only [List.mem_singleton] at hmem
              refine ⟨(.tup [.bool false],h),?_,?_⟩
              · rw [← he,← hol,ho]; simp
              · refine ⟨.tuple #[.bool false],w1,L,?_,?_,H1,fr1,Ext.refl _ _⟩
                · rw [hrun,hcj,hmem]; simp
                · refine .tup _ rfl (fun k c hk => ?_)
                  match k,hk with
                  | 0,hk => simp at hk; subst hk; exact .bool _
                  | k + 1,hk => simp at hk
            · simp at hmem
          · simp only [List.mem_map] at hmem
            obtain ⟨e,hme,hce⟩ := hmem
            rw [hoM,hnM] at hme
            obtain ⟨i,hil,hie⟩ := List.mem_iff_getElem.1 hme
            have hil' := hil
            rw [E4.1] at hil'
            obtain ⟨⟨k0,v0,t0⟩,hp⟩:∃ p,(((ents.filter fun e => !seen.contains e.2.2).filter fun e => decide (e.2.2 < since)) ++ ((ents.filter fun e => !seen.contains e.2.2).filter fun e => decide (since ≤ e.2.2)))[i]? = some p := ⟨_,List.getElem?_eq_getElem hil'⟩
            obtain ⟨e',e1,e2,e3,e4⟩ := E4.2 i k0 v0 t0 hp
            rw [List.getElem?_eq_getElem hil,hie] at e1
            injection e1 with e1; subst e1
            refine ⟨(.tup [.bool true,k0,v0],h.set id (.miter (some m) since (seen ++ [t0]) clock)),?_,?_⟩
            · rw [← he,List.mem_append]
              exact .inr (List.mem_map.2 ⟨(k0,v0,t0),List.mem_of_getElem? hp,rfl⟩)
            · have h2':w1.heap[b]? = some (.mapIter (some rm) since seen.toArray stepped) := by rw [hheap]; exact h2
              have hbl' := (Array.getElem?_eq_some_iff.1 h2').1
              have hfr2:Fr (Own L) w1 (E.put w1 b (.mapIter (some rm) since (seen.toArray.push e.born) clock)) := fr_putIter ⟨id,_,h1⟩ h2'
              refine ⟨.tuple #[.bool true,e.key,e.val],_,L,?_,?_,HRel.set H1 h1 hid (fun ⟨_,_,_,q⟩ => by rw [hob] at q; cases q) hfr2 (fun k _ hk => put_other hk) ⟨b,sz,some rm,h1,?_,hml,hmr⟩,fr1.trans (Ext.refl L w) hfr2,Ext.refl _ _⟩
              · rw [hrun,hcj,← hce]
                simp only [Sem.run_bind,run_setObj_i h2',Result.andThen_ok,Sem.run_pure]
              · have st:∀ {v:V} {x:Value},Rep L w v x → Rep L (E.put w1 b (.mapIter (some rm) since (seen.toArray.push e.born) clock)) v x := fun r => H.step_rep r (fr1.trans (Ext.refl L w) hfr2) (Ext.refl _ _)
                refine .tup _ rfl (fun k c hk => ?_)
                match k,hk with
                | 0,hk => simp at hk; subst hk; exact .bool _
                | 1,hk => simp at hk; subst hk; exact st e2
                | 2,hk => simp at hk; subst hk; exact st e3
                | k + 3,hk => simp at hk
              · rw [put_same hbl',e4]
                simp
      · cases he
    · cases he
  · cases he
/-- The entry that was come to. -/
def evEntry (h:List Ob):V → Option V
  | .ptr id 0 0 => match h[id]? with
    | some (.miter (some m) _ seen stepped) => match seen.getLast? with
      | some stamp => match h[m]? with
        | some (.map ents clock) => match decide (clock = stepped) with
          | true => match ents.find? fun e => e.2.2 == stamp with
            | some e => some (.tup [e.1,e.2.1])
            | none => none
          | false => none
        | _ => none
      | none => none
    | _ => none
  | _ => none
theorem EntsRep.find {L:Loc} {w:World} (q:Nat → Bool):∀ {ents:List (V × V × Nat)} {mes:List MapEntry} {e:V × V × Nat},EntsRep L w ents mes → ents.find? (fun e => q e.2.2) = some e → ∃ m,mes.find? (fun e => q e.born) = some m ∧ Rep L w e.1 m.key ∧ Rep L w e.2.1 m.val
  | [],_,e,h,hf => by simp at hf
  | p :: ents,[],e,h,hf => by have := h.1; simp at this
  | p :: ents,m :: mes,e,h,hf => by
    obtain ⟨h1,h2,h3⟩ := h.head
    rw [List.find?_cons] at hf ⊢
    rw [h3]
    cases hq:q p.2.2 with
    | true => rw [hq] at hf; simp at hf; subst hf; exact ⟨m,rfl,h1,h2⟩
    | false => rw [hq] at hf; exact EntsRep.find q h.tail hf
theorem entry_good {P:Program} {L:Loc} {h:List Ob} {w:World} (H:HRel L h w) {v r:V} {x:Value} (rep:Rep L w v x) (he:evEntry h v = some r):Good P L w (Instr.entry x) r h := by
  unfold evEntry at he
  split at he
  · rename_i id
    split at he
    · rename_i m since seen stepped hob
      split at he
      · rename_i stamp hst
        split at he
        · rename_i ents clock hmap
          split at he
          · rename_i hcl
            have hcl := of_decide_eq_true hcl
            split at he
            · rename_i e hfe
              injection he with he; subst he
              obtain ⟨b,sz,mb,h1,h2,h3⟩ := H.obs id _ hob
              obtain ⟨bm,basem,szm,mes,m1,m2,m3,m4⟩ := H.obs m _ hmap
              cases mb with
              | none => simp only at h3
              | some rm =>
              simp only at h3
              obtain ⟨hml,hmr⟩ := h3
              have hrm:rm = bm := by
                rcases hmr with q | ⟨p,q⟩
                · rw [m1] at q; cases q
                · rw [m1] at q; injection q with q; injection q with q _; exact q.symm
              subst hrm
              have E0:EntsRep L w ents mes.toList := ⟨by simpa using m3,fun i k v t hi => by simpa using m4 i k v t hi⟩
              obtain ⟨me,f1,f2,f3⟩ := E0.find (fun t => t == stamp) hfe
              cases rep with
              | ptrD _ g => rw [h1] at g; cases g
              | ptr g =>
              rw [h1] at g; injection g with g; injection g with q1 q2; injection q2 with q2 q3; subst q1; subst q2; subst q3
              refine .same H (x := .tuple #[me.key,me.val]) ?_ ?_
              · simp only [Instr.entry,Sem.run_bind,run_getObj_i h2,Result.andThen_ok,Sem.run_pure,Nat.zero_mul,Nat.add_zero]
                have hb:seen.toArray.back? = some stamp := by simpa using hst
                rw [hb]
                simp only [Sem.run_bind,run_getObj_map m2,Result.andThen_ok,hcl,bne_self_eq_false,Bool.false_eq_true,if_false,Sem.run_pure]
                have hf:mes.find? (fun e => e.born == stamp) = some me := by simpa using f1
                rw [hf]
                simp
              · refine .tup _ rfl (fun k c hk => ?_)
                match k,hk with
                | 0,hk => simp at hk; subst hk; exact f2
                | 1,hk => simp at hk; subst hk; exact f3
                | k + 2,hk => simp at hk
            · cases he
          · cases he
        · cases he
      · cases he
    · cases he
  · cases he
end Go.Proofs.YtjpjeilfmjdhcaaDoor.E
/- The layer E, part 16: the operations of the program with their types looked up ahead, and that each comes to what is said. No condition. -/
namespace Go.Proofs.YtjpjeilfmjdhcaaDoor.E
set_option linter.unusedSimpArgs false
set_option linter.unusedVariables false
def zeroOf (P:Program) (t:TypeId):Option V := (P.info? t).bind fun i => i.zero.bind ofZero
/-- An array of plain values: its variable is a row of them. -/
def arrOf (P:Program) (t:TypeId):Bool := match P.underlying t with
  | some (.array _ e) => P.cellsOf e == 1
  | _ => false
def cOpt (n:Nat):Option Operand → Option (Option EO)
  | none => some none
  | some x => (cOpd n x).map some
def lkOf (P:Program) (t:TypeId):Option LK := match P.underlying t with
  | some (.int _) => some .i
  | some .string => some .s
  | some .bool => some .b
  | _ => none
theorem lkOf_fits {P:Program} {t:TypeId} {k:LK} (h:lkOf P t = some k):k.fits P t := by
  unfold lkOf at h
  split at h <;> first | (cases h; done) | skip
  all_goals injection h with h; subst h
  · rename_i q; exact ⟨_,q⟩
  · rename_i q; exact q
  · rename_i q; exact q
def eqTOf (P:Program) (t:TypeId):Option EqT := match P.underlying t with
  | some .bool => some .bool
  | some (.pointer _) => some .ptr
  | some (.slice _) => some .slice
  | some (.map _ _) => some .map
  | some (.func _ _ _) => some .func
  | some (.struct _) => if P.eqGuardType P.depth t = false then (leavesOf P 8 t).map (.struct (P.cellsOf t)) else none
  | _ => none
theorem eqTOf_fits {P:Program} {t:TypeId} {T:EqT} (h:eqTOf P t = some T):T.fits P t := by
  unfold eqTOf at h
  split at h <;> first | (cases h; done) | skip
  · rename_i q; injection h with h; subst h; exact q
  · rename_i q; injection h with h; subst h; exact ⟨_,q⟩
  · rename_i q; injection h with h; subst h; exact ⟨_,q⟩
  · rename_i q; injection h with h; subst h; exact ⟨_,_,q⟩
  · rename_i q; injection h with h; subst h; exact ⟨_,_,_,q⟩
  · rename_i q
    split at h
    · rename_i g
      simp only [Option.map_eq_some_iff] at h
      obtain ⟨ls,h1,rfl⟩ := h
      exact ⟨h1,g,by simp [isStruct,q],rfl⟩
    · cases h
def isCmpPlain (P:Program) (t:TypeId):Bool := match P.underlying t with
  | some (.int _) | some .string => true
  | _ => false
/-- Where a composite value's parts lie. -/
def placesOf (P:Program) (t:TypeId):Option (Nat → Option (Nat × Nat)) :=
  match P.underlying t with
  | some (.array _ e) => (P.info? e).map fun ie => fun i => some (i * ie.size,ie.size)
  | some (.struct fs) => (fs.toList.mapM (fun f => (P.info? f.type).map fun i => (f.offset,i.size))).map fun ps => fun i => ps.toArray[i]?
  | _ => none
def compParts (n:Nat) (place:Nat → Option (Nat × Nat)) (ps:List (Nat × Operand)):Option (List (Nat × Nat × EO)) :=
  mapAll (fun p => match place p.1,cOpd n p.2 with | some q,some x => some (q.1,q.2,x) | _,_ => none) ps
def compBuiltin (P:Program) (n:Nat) (b:Builtin) (ts:Array TypeId) (xs:Array Operand):Option EOp :=
  match b,ts.toList,xs.toList with
  | .len,t :: _,[x] => match P.underlying t,cOpd n x with
    | some .string,some x => some (.lenS x)
    | some (.slice _),some x => some (.lenL x)
    | some (.map _ _),some x => some (.lenM x)
    | _,_ => none
  | .cap,t :: _,[x] => match P.underlying t,cOpd n x with
    | some (.slice _),some x => some (.capL x)
    | _,_ => none
  | .append,[t,t2],[x,y] => match P.underlying t,P.underlying t2,cOpd n x,cOpd n y with
    | some (.slice e),some (.int _),some x,some y => match P.info? e with
      | some i => if i.zero matches some (.int .u8 0) then (if i.size = 1 ∧ i.bytes = 1 then some (.appZ 1 1 .nilp x y) else none) else none
      | none => none
    | some (.slice e),some (.int _),_,_ => none
    | some (.slice e),some _,some x,some y => match P.info? e with
      | some i => match i.zero with
        | some z => if 0 < i.bytes ∧ z.cells.size = i.size ∧ 0 < i.size then some (.app i.size i.bytes x y) else none
        | none => none
      | none => none
    | _,_,_,_ => none
  | .copy,t :: _,[x,y] => match P.underlying t,cOpd n x,cOpd n y with
    | some (.slice e),some x,some y => match P.info? e with
      | some i => if 0 < i.size then some (.copy i.size x y) else none
      | none => none
    | _,_,_ => none
  | .min,_,[x,y] => match cOpd n x,cOpd n y with | some x,some y => some (.minmax false x y) | _,_ => none
  | .max,_,[x,y] => match cOpd n x,cOpd n y with | some x,some y => some (.minmax true x y) | _,_ => none
  | .max,_,x :: ys => match cOpd n x,mapAll (cOpd n) ys with | some x,some ys => some (.maxN x ys) | _,_ => none
  | .delete,t :: _,[x,y] => match P.underlying t,cOpd n x,cOpd n y with
    | some (.map k _),some x,some y => (lkOf P k).map fun kt => .delete kt x y
    | _,_,_ => none
  | _,_,_ => none
def compOp (P:Program) (n:Nat) (o:Op):Option EOp :=
  match o with
  | .move x => (cOpd n x).map .mv
  | .assign x => (cOpd n x).map .mv
  | .pick c a b => match cOpd n c,cOpd n a,cOpd n b with | some c,some a,some b => some (.pick c a b) | _,_,_ => none
  | .alloc T => (zeroOf P T).map (.alloc (arrOf P T))
  | .box T x => (cOpd n x).map (.box (arrOf P T))
  | .build T ps => match zeroOf P T,placesOf P T with
    | some (.agg z),some place => (compParts n place ps.toList).map (.build z)
    | _,_ => none
  | .buildSlice T len ps => match P.underlying T with
    | some (.slice e) => match P.info? e,zeroOf P e,mapAll (fun p:Nat × Operand => (cOpd n p.2).map fun x => (p.1,x)) ps.toList with
      | some i,some z,some ps => if plainV i.size z ∧ 0 < i.size then some (.bslice i.size z len ps) else none
      | _,_,_ => none
    | _ => none
  | .load T a => match P.info? T,P.underlying T,cOpd n a with
    | some i,some _,some a => if isStruct P T then some (.loadN i.size a) else some (.load1 a)
    | _,_,_ => none
  | .store T a x => match P.info? T,cOpd n a,cOpd n x with
    | some i,some a,some x => some (.store i.size a x)
    | _,_,_ => none
  | .nilCheck x => (cOpd n x).map .nilck
  | .binOp op T x y _ => match cOpd n x,cOpd n y with
    | some x,some y => if op = .eql ∨ op = .neq then (if isCmpPlain P T then some (.bin op x y) else (eqTOf P T).map fun T => .eq (op = .neq) T x y) else some (.bin op x y)
    | _,_ => none
  | .unOp op _ x => (cOpd n x).map (.un op)
  | .convert s d x => match P.underlying s,P.underlying d,cOpd n x with
    | some (.int _),some (.int k),some x => some (.toInt k x)
    | some .string,some .string,some x => some (.strId x)
    | some .string,some (.slice e),some x => if P.underlying e matches some (.int .u8) then some (.toBytes x) else none
    | some (.slice e),some (.slice _),some x => if s = d then (if P.underlying e matches some (.int .u8) then some (.strish x) else none) else none
    | some (.slice e),some .string,some x => if P.underlying e matches some (.int .u8) then some (.toStr x) else none
    | _,_,_ => none
  | .makeFunc (.func f) first caps => match mapAll (cOpd n) first.toList,mapAll (cOpd n) caps.toList with
    | some [],some cs => some (.mkfn f cs)
    | some (c :: cs),some [] => some (.mkbm f (c :: cs))
    | _,_ => none
  | .makeMap _ none => some .mkmap
  | .makeSlice T l c => match P.underlying T,cOpd n l,cOpd n c with
    | some (.slice e),some l,some c => match P.info? e,zeroOf P e with
      | some i,some z => if z.cells.length = i.size ∧ 0 < i.size then some (.mkslice z i.bytes l c) else none
      | _,_ => none
    | _,_,_ => none
  | .slice T x lo hi mx => match P.underlying T,cOpd n x,cOpt n lo,cOpt n hi,cOpt n mx with
    | some .string,some x,some lo,some hi,some none => some (.slcS x lo hi)
    | some (.slice e),some x,some lo,some hi,some mx => (P.info? e).map fun i => .slcL i.size x lo hi mx
    | some (.array k e),some x,some lo,some hi,some none => (P.info? e).bind fun i => if 0 < i.size then some (.slcA k i.size x lo hi) else none
    | _,_,_,_,_ => none
  | .fieldAddr T x k => match P.underlying T,cOpd n x with
    | some (.struct fs),some x => match fs[k]? with
      | some g => (P.info? g.type).bind fun i => if i.size ≠ 0 then some (.faddr g.offset x) else none
      | none => none
    | _,_ => none
  | .field T x k => match P.underlying T,cOpd n x with
    | some (.struct fs),some x => match fs[k]? with
      | some g => match P.info? g.type,P.underlying g.type with
        | some i,some _ => if isStruct P g.type then some (.fieldN g.offset i.size x) else some (.field1 g.offset x)
        | _,_ => none
      | none => none
    | _,_ => none
  | .indexAddr T x i => match P.underlying T,cOpd n x,cOpd n i with
    | some (.array k e),some x,some i => (P.info? e).map fun ie => .iaddrA k ie.size x i
    | some (.slice e),some x,some i => (P.info? e).map fun ie => .iaddrL ie.size x i
    | _,_,_ => none
  | .index T x i => match P.underlying T,cOpd n x,cOpd n i with
    | some .string,some x,some i => some (.idxS x i)
    | _,_,_ => none
  | .extract x i => (cOpd n x).map (.ext i)
  | .lookup T m k ok => match P.underlying T,cOpd n m,cOpd n k with
    | some (.map kT eT),some m,some k => match lkOf P kT,zeroOf P eT with
      | some kt,some z => some (.lookup kt z ok m k)
      | _,_ => none
    | _,_,_ => none
  | .mapUpdate T m k v => match P.underlying T,cOpd n m,cOpd n k,cOpd n v with
    | some (.map kT _),some m,some k,some v => (lkOf P kT).map fun kt => .mapupd kt m k v
    | _,_,_,_ => none
  | .range T x => match P.underlying T,cOpd n x with
    | some .string,some x => some (.rangeS x)
    | some (.map _ _),some x => some (.rangeM x)
    | _,_ => none
  | .next x true => (cOpd n x).map .nextS
  | .entry x => (cOpd n x).map .entry
  | .call { callee := .builtin b,args,argTypes } => compBuiltin P n b argTypes args
  | _ => none
def evOp (eo:EOp) (t:Nat → V) (h:List Ob):Option (V × List Ob) :=
  match eo with
  | .mv x => some (x.get t,h)
  | .pick c a b => match c.get t with
    | .bool q => some (if q then a.get t else b.get t,h)
    | _ => none
  | .alloc arr z => evBox arr h z
  | .box arr x => evBox arr h (x.get t)
  | .build z ps => (fillV z (ps.map fun p => (p.1,p.2.1,p.2.2.get t))).map fun cs => (.agg cs,h)
  | .bslice sz z len ps => evBslice' h sz z len (ps.map fun p => (p.1,p.2.get t))
  | .load1 a => (evLoad1 h (a.get t)).map fun v => (v,h)
  | .loadN n a => (evLoadN h n (a.get t)).map fun v => (v,h)
  | .store n a x => (evStore h n (a.get t) (x.get t)).map fun h' => (.tup [],h')
  | .nilck x => (evNilck h (x.get t)).map fun v => (v,h)
  | .bin op x y => (evBin op (x.get t) (y.get t)).map fun v => (v,h)
  | .eq neg T x y => (evEq h T (x.get t) (y.get t)).map fun b => (.bool (if neg then !b else b),h)
  | .un op x => (evUn op (x.get t)).map fun v => (v,h)
  | .toInt k x => match x.get t with
    | .int _ m => some (.int k (k.wrap m),h)
    | _ => none
  | .strId x => match x.get t with
    | .str l => some (.str l,h)
    | _ => none
  | .toStr x => (evToStr h (x.get t)).map fun v => (v,h)
  | .toBytes x => match x.get t with
    | .str l => some (evToBytes h l)
    | _ => none
  | .mkfn f caps => some (.fn f (caps.map (·.get t)),h)
  | .mkslice z b l c => match l.get t,c.get t with
    | .int _ l,.int _ c => evMake h z b l c
    | _,_ => none
  | .slcS x lo hi => match x.get t with
    | .str l => (evSlcS l (lo.map (·.get t)) (hi.map (·.get t))).map fun v => (v,h)
    | _ => none
  | .slcL sz x lo hi mx => match x.get t with
    | .hsl id off len => match h[id]? with
      | some (.row _ s) => if s = sz then (evSlcL h (.hsl id off len) (lo.map (·.get t)) (hi.map (·.get t)) (mx.map (·.get t))).map fun v => (v,h) else none
      | _ => none
    | .sl es => if headOk sz es then (evSlcL h (.sl es) (lo.map (·.get t)) (hi.map (·.get t)) (mx.map (·.get t))).map fun v => (v,h) else none
    | v => (evSlcL h v (lo.map (·.get t)) (hi.map (·.get t)) (mx.map (·.get t))).map fun v => (v,h)
  | .slcA n sz x lo hi => (evSlcA h n sz (x.get t) (lo.map (·.get t)) (hi.map (·.get t))).map fun v => (v,h)
  | .faddr off x => match x.get t with
    | .ptr id i j => if aliveB h id then some (.ptr id i (j + off),h) else none
    | .ref e j => some (.ref e (j + off),h)
    | _ => none
  | .field1 off x => (evField1 off (x.get t)).map fun v => (v,h)
  | .fieldN off n x => (evFieldN off n (x.get t)).map fun v => (v,h)
  | .iaddrA n sz x i => match i.get t with
    | .int _ m => (evIaddrA h n sz (x.get t) m).map fun v => (v,h)
    | _ => none
  | .iaddrL sz x i => match i.get t with
    | .int _ m => (evIaddrL h sz (x.get t) m).map fun v => (v,h)
    | _ => none
  | .idxS x i => match x.get t,i.get t with
    | .str l,.int _ m => (evIdxS l m).map fun v => (v,h)
    | _,_ => none
  | .ext i x => (evExt i (x.get t)).map fun v => (v,h)
  | .lenS x => match x.get t with
    | .str l => some (.int .i64 l.length,h)
    | _ => none
  | .lenL x => (evLenL h (x.get t)).map fun (m:Nat) => ((.int .i64 m:V),h)
  | .app sz bytes x y => (contsW h sz (y.get t)).bind fun es => evApp h sz bytes (x.get t) es
  | .copy sz x y => (conts h sz (y.get t)).bind fun es => evCopy h sz (x.get t) es
  | .minmax mx x y => (evMinmax mx (x.get t) (y.get t)).map fun v => (v,h)
  | .maxN x ys => (evMaxL (x.get t) (ys.map (·.get t))).map fun v => (v,h)
  | .mkbm f caps => some (.bm f (caps.map (·.get t)),h)
  | .mkmap => some (.mp h.length,h ++ [.map [] 0])
  | .lenM x => (evLenM h (x.get t)).map fun (m:Nat) => ((.int .i64 m:V),h)
  | .lookup kt z ok m k => (evLookup h kt z ok (m.get t) (k.get t)).map fun v => (v,h)
  | .mapupd kt m k v => (evMapUpd h kt (m.get t) (k.get t) (v.get t)).map fun h' => (.tup [],h')
  | .delete kt m k => (evDelete h kt (m.get t) (k.get t)).map fun h' => (.tup [],h')
  | .capL x => (evCap (x.get t)).map fun (m:Nat) => ((.int .i64 m:V),h)
  | .appZ _ _ _ x n => match n.get t with
    | .int _ m => evAppZ h (x.get t) m
    | _ => none
  | .strish x => (evStrish h (x.get t)).map fun v => (v,h)
  | .rangeS x => evRangeS h (x.get t)
  | .rangeM x => evRangeM h (x.get t)
  | .entry x => (evEntry h (x.get t)).map fun v => (v,h)
  | .cmpB x y => match evBytes h (x.get t),evBytes h (y.get t) with
    | some l,some m => some (.int .i64 (Lib.compareBytes l m),h)
    | _,_ => none
  | .idxB x c => match evBytes h (x.get t),c.get t with
    | some l,.int .u8 c => some (.int .i64 (Lib.indexByte l c.toNat.toUInt8),h)
    | _,_ => none
  | .cntB x c => match evBytes h (x.get t),c.get t with
    | some l,.int .u8 c => some (.int .i64 (Lib.countByte l c.toNat.toUInt8:Nat),h)
    | _,_ => none
  | .nextS x => evNextS h (x.get t)
  | _ => none
theorem zeroOf_spec {P:Program} {t:TypeId} {z:V} (h:zeroOf P t = some z):∃ i zv,P.info? t = some i ∧ i.zero = some zv ∧ ofZero zv = some z := by
  unfold zeroOf at h
  simp only [Option.bind_eq_some_iff] at h
  obtain ⟨i,h1,zv,h2,h3⟩ := h
  exact ⟨i,zv,h1,h2,h3⟩
theorem cOpt_rep {L:Loc} {w:World} {n:Nat} {t:Nat → V} {a:Act} (r:TRel L w n t a.tmps) {x:Option Operand} {e:Option EO} (h:cOpt n x = some e):BRep L w (e.map (·.get t)) (x.map a.eval) := by
  cases x with
  | none => simp [cOpt] at h; subst h; trivial
  | some x =>
    simp only [cOpt,Option.map_eq_some_iff] at h
    obtain ⟨y,h1,rfl⟩ := h
    exact cOpd_rep r h1
theorem compParts_spec {L:Loc} {w:World} {n:Nat} {t:Nat → V} {a:Act} (r:TRel L w n t a.tmps) {place:Nat → Option (Nat × Nat)}:∀ (ps:List (Nat × Operand)) (qs:List (Nat × Nat × EO)),compParts n place ps = some qs →
    PRep L w place (qs.map fun p => (p.1,p.2.1,p.2.2.get t)) (ps.map fun p => (p.1,a.eval p.2))
  | [],qs,h => by simp [compParts,mapAll] at h; subst h; trivial
  | (i,x) :: ps,qs,h => by
    simp only [compParts,mapAll] at h
    split at h
    · rename_i y ys h1 h2
      injection h with h; subst h
      split at h1
      · rename_i q z g1 g2
        injection h1 with h1; subst h1
        exact ⟨g1,cOpd_rep r g2,compParts_spec r ps ys h2⟩
      · cases h1
    · cases h
theorem partsS_spec {L:Loc} {w:World} {n:Nat} {t:Nat → V} {a:Act} (r:TRel L w n t a.tmps):∀ (ps:List (Nat × Operand)) (qs:List (Nat × EO)),mapAll (fun p:Nat × Operand => (cOpd n p.2).map fun x => (p.1,x)) ps = some qs →
    SRep L w (qs.map fun p => (p.1,p.2.get t)) (ps.map fun p => (p.1,a.eval p.2))
  | [],qs,h => by simp [mapAll] at h; subst h; trivial
  | (i,x) :: ps,qs,h => by
    simp only [mapAll] at h
    split at h
    · rename_i y ys h1 h2
      injection h with h; subst h
      simp only [Option.map_eq_some_iff] at h1
      obtain ⟨z,g1,rfl⟩ := h1
      exact ⟨rfl,cOpd_rep r g1,partsS_spec r ps ys h2⟩
    · cases h
theorem caps_spec {L:Loc} {w:World} {n:Nat} {t:Nat → V} {a:Act} (r:TRel L w n t a.tmps) {xs:List Operand} {ys:List EO} (h:mapAll (cOpd n) xs = some ys) :
    (xs.toArray.map a.eval).size = (ys.map (·.get t)).length ∧ ∀ k c,(ys.map (·.get t))[k]? = some c → Rep L w c ((xs.toArray.map a.eval).getD k undef) := by
  obtain ⟨g1,g2⟩ := mapAll_get h
  refine ⟨by simp [g1],fun k c hk => ?_⟩
  simp only [List.getElem?_map,Option.map_eq_some_iff] at hk
  obtain ⟨y,hy,rfl⟩ := hk
  obtain ⟨x,q1,q2⟩ := g2 k y hy
  have:(xs.toArray.map a.eval).getD k undef = a.eval x := by
    rw [Array.getD_eq_getD_getElem?]
    simp [q1]
  rw [this]
  exact cOpd_rep r q2
end Go.Proofs.YtjpjeilfmjdhcaaDoor.E
/- The layer E, part 17: each operation comes to what 'evOp' says. No condition. -/
namespace Go.Proofs.YtjpjeilfmjdhcaaDoor.E
set_option linter.unusedSimpArgs false
set_option linter.unusedVariables false
theorem binop_run {P:Program} {L:Loc} {h:List Ob} {w:World} (H:HRel L h w) {op:BinOp} {T:TypeId} {x y:Operand} {a b:Value} {u v r:V} (ha:Rep L w u a) (hb:Rep L w v b) (he:evBin op u v = some r) :
    Good P L w (do eqGuard op T x y a b; binOp op T a b) r h := by
  obtain ⟨z,w',L',h1,rest⟩ := evBin_good (P := P) (t := T) H ha hb he
  have hg:(eqGuard op T x y a b).run P w = .ok () w := by
    refine run_eqGuard_plain w op T x y a b ?_ ?_
    · rintro ⟨cs,ds,rfl,rfl⟩
      unfold evBin at he
      split at he
      · cases ha
      · cases ha
      · cases he
    · rintro ⟨rfl,rfl⟩
      unfold evBin at he
      split at he
      · cases ha
      · cases ha
      · cases he
  exact ⟨z,w',L',by rw [Sem.run_bind,hg,Result.andThen_ok]; exact h1,rest⟩
theorem eqop_run {P:Program} {L:Loc} {h:List Ob} {w:World} (H:HRel L h w) {op:BinOp} {t:TypeId} {T:EqT} (hT:T.fits P t) (hop:op = .eql ∨ op = .neq) {x y:Operand} {a b:Value} {u v:V} {r:Bool} (ha:Rep L w u a) (hb:Rep L w v b)
    (he:evEq h T u v = some r):Good P L w (do eqGuard op t x y a b; binOp op t a b) (.bool (if op = .neq then !r else r)) h := by
  obtain ⟨h1,h2,h3⟩ := evEq_run (P := P) H hT ha hb he
  refine .same H (x := .bool (if op = .neq then !r else r)) ?_ (.bool _)
  rw [Sem.run_bind,h2,Result.andThen_ok,h3 op hop]
  rcases hop with rfl | rfl
  · simp [h1]
  · simp [h1]
theorem snd_move {P:Program} {L:Loc} {h h':List Ob} {w:World} (H:HRel L h w) {n:Nat} {t:Nat → V} {a:Act} (r:TRel L w n t a.tmps) {dst:_} {ty:_} {pos:_} {after:_} {guard:_} {x:_} {eo:EOp} {v:V} (hc:compOp P n (.move x) = some eo) (he:evOp eo t h = some (v,h')) :
    GoodOp P L w (execOp a.eval ⟨dst,.move x,ty,pos,after,guard⟩) v h' := by
  simp only [compOp,Option.map_eq_some_iff] at hc
  obtain ⟨e,h1,rfl⟩ := hc
  simp only [evOp,Option.some.injEq,Prod.mk.injEq] at he
  obtain ⟨rfl,rfl⟩ := he
  exact .same H rfl (cOpd_rep r h1)
theorem snd_assign {P:Program} {L:Loc} {h h':List Ob} {w:World} (H:HRel L h w) {n:Nat} {t:Nat → V} {a:Act} (r:TRel L w n t a.tmps) {dst:_} {ty:_} {pos:_} {after:_} {guard:_} {x:_} {eo:EOp} {v:V} (hc:compOp P n (.assign x) = some eo) (he:evOp eo t h = some (v,h')) :
    GoodOp P L w (execOp a.eval ⟨dst,.assign x,ty,pos,after,guard⟩) v h' := by
  simp only [compOp,Option.map_eq_some_iff] at hc
  obtain ⟨e,h1,rfl⟩ := hc
  simp only [evOp,Option.some.injEq,Prod.mk.injEq] at he
  obtain ⟨rfl,rfl⟩ := he
  exact .same H rfl (cOpd_rep r h1)
theorem snd_pick {P:Program} {L:Loc} {h h':List Ob} {w:World} (H:HRel L h w) {n:Nat} {t:Nat → V} {a:Act} (r:TRel L w n t a.tmps) {dst:_} {ty:_} {pos:_} {after:_} {guard:_} {c:_} {x:_} {y:_} {eo:EOp} {v:V} (hc:compOp P n (.pick c x y) = some eo) (he:evOp eo t h = some (v,h')) :
    GoodOp P L w (execOp a.eval ⟨dst,.pick c x y,ty,pos,after,guard⟩) v h' := by
  simp only [compOp] at hc
  split at hc
  · rename_i c' x' y' h1 h2 h3
    injection hc with hc; subst hc
    simp only [evOp] at he
    split at he
    · rename_i q hq
      injection he with he; injection he with he1 he2; subst he1; subst he2
      have rc := cOpd_rep r h1
      rw [hq] at rc
      cases q with
      | true => exact .same H (by simp only [execOp]; generalize a.eval c = z at rc; cases rc; simp [asBool]) (cOpd_rep r h2)
      | false => exact .same H (by simp only [execOp]; generalize a.eval c = z at rc; cases rc; simp [asBool]) (cOpd_rep r h3)
    · cases he
  · cases hc
theorem snd_alloc {P:Program} {L:Loc} {h h':List Ob} {w:World} (H:HRel L h w) {n:Nat} {t:Nat → V} {a:Act} (r:TRel L w n t a.tmps) {dst:_} {ty:_} {pos:_} {after:_} {guard:_} {T:_} {eo:EOp} {v:V} (hc:compOp P n (.alloc T) = some eo) (he:evOp eo t h = some (v,h')) :
    GoodOp P L w (execOp a.eval ⟨dst,.alloc T,ty,pos,after,guard⟩) v h' := by
  simp only [compOp,Option.map_eq_some_iff] at hc
  obtain ⟨z,h1,rfl⟩ := hc
  obtain ⟨i,zv,g1,g2,g3⟩ := zeroOf_spec h1
  exact (alloc_good H g1 g2 g3 he).op
theorem snd_box {P:Program} {L:Loc} {h h':List Ob} {w:World} (H:HRel L h w) {n:Nat} {t:Nat → V} {a:Act} (r:TRel L w n t a.tmps) {dst:_} {ty:_} {pos:_} {after:_} {guard:_} {T:_} {x:_} {eo:EOp} {v:V} (hc:compOp P n (.box T x) = some eo) (he:evOp eo t h = some (v,h')) :
    GoodOp P L w (execOp a.eval ⟨dst,.box T x,ty,pos,after,guard⟩) v h' := by
  simp only [compOp,Option.map_eq_some_iff] at hc
  obtain ⟨e,h1,rfl⟩ := hc
  exact (box_good H (cOpd_rep r h1) he).op
theorem snd_build {P:Program} {L:Loc} {h h':List Ob} {w:World} (H:HRel L h w) {n:Nat} {t:Nat → V} {a:Act} (r:TRel L w n t a.tmps) {dst:_} {ty:_} {pos:_} {after:_} {guard:_} {T:_} {ps:_} {eo:EOp} {v:V} (hc:compOp P n (.build T ps) = some eo) (he:evOp eo t h = some (v,h')) :
    GoodOp P L w (execOp a.eval ⟨dst,.build T ps,ty,pos,after,guard⟩) v h' := by
  simp only [compOp] at hc
  split at hc
  · rename_i z place hz hp
    simp only [Option.map_eq_some_iff] at hc
    obtain ⟨qs,h1,rfl⟩ := hc
    simp only [evOp,Option.map_eq_some_iff,Prod.mk.injEq] at he
    obtain ⟨cs,hf,rfl,rfl⟩ := he
    obtain ⟨i,zv,g1,g2,g3⟩ := zeroOf_spec hz
    have rz:Rep L w (.agg z) zv := ofZero_rep g3
    cases rz with
    | agg vs hl hr =>
      obtain ⟨us,f1,f2,f3⟩ := fill_spec _ _ z cs vs (compParts_spec r ps.toList qs h1) hl hr hf
      have hb:P.built T ((ps.map fun (i,x) => (i,a.eval x)).toList) = some us := by
        unfold placesOf at hp
        unfold Program.built
        rw [g1]
        have hlist:(ps.map fun (i,x) => (i,a.eval x)).toList = ps.toList.map fun p => (p.1,a.eval p.2) := by simp
        rw [hlist]
        split at hp
        · rename_i m e hu
          simp only [Option.map_eq_some_iff] at hp
          obtain ⟨ie,q1,rfl⟩ := hp
          simp only [hu,g2,q1]
          exact f1
        · rename_i fs hu
          simp only [Option.map_eq_some_iff] at hp
          obtain ⟨pl,q1,rfl⟩ := hp
          simp only [hu,g2,q1]
          exact f1
        · cases hp
      exact Good.op (.same H (run_build w T _ us hb) (.agg us f2 f3))
  · cases hc
theorem snd_buildSlice {P:Program} {L:Loc} {h h':List Ob} {w:World} (H:HRel L h w) {n:Nat} {t:Nat → V} {a:Act} (r:TRel L w n t a.tmps) {dst:_} {ty:_} {pos:_} {after:_} {guard:_} {T:_} {len:_} {ps:_} {eo:EOp} {v:V} (hc:compOp P n (.buildSlice T len ps) = some eo) (he:evOp eo t h = some (v,h')) :
    GoodOp P L w (execOp a.eval ⟨dst,.buildSlice T len ps,ty,pos,after,guard⟩) v h' := by
  simp only [compOp] at hc
  split at hc
  · rename_i e hu
    split at hc
    · rename_i i z qs h1 h2 h3
      split at hc
      · rename_i hh
        injection hc with hc; subst hc
        obtain ⟨i',zv,g1,g2,g3⟩ := zeroOf_spec h2
        rw [h1] at g1; injection g1 with g1; subst g1
        have := bslice_good (P := P) H hu h1 g2 g3 hh.1 hh.2 (partsS_spec r ps.toList qs h3) he
        have e:∀ f:Nat × Operand → Nat × Value,(∀ p,f p = (p.1,a.eval p.2)) → GoodOp P L w (do pure (.value (← Instr.buildSlice T len (ps.map f)))) v h' := by
          intro f hf
          have hlist:ps.map f = (ps.toList.map fun p => (p.1,a.eval p.2)).toArray := by
            have:f = fun p => (p.1,a.eval p.2) := funext hf
            rw [this]; apply Array.ext'; simp
          rw [hlist]
          exact this.op
        exact e _ (fun _ => rfl)
      · cases hc
    · cases hc
  · cases hc
theorem snd_load {P:Program} {L:Loc} {h h':List Ob} {w:World} (H:HRel L h w) {n:Nat} {t:Nat → V} {a:Act} (r:TRel L w n t a.tmps) {dst:_} {ty:_} {pos:_} {after:_} {guard:_} {T:_} {x:_} {eo:EOp} {v:V} (hc:compOp P n (.load T x) = some eo) (he:evOp eo t h = some (v,h')) :
    GoodOp P L w (execOp a.eval ⟨dst,.load T x,ty,pos,after,guard⟩) v h' := by
  simp only [compOp] at hc
  split at hc
  · rename_i i d e h1 h2 h3
    have hu:(P.underlying T).isSome = true := by rw [h2]; rfl
    split at hc
    · rename_i hs
      injection hc with hc; subst hc
      simp only [evOp,Option.map_eq_some_iff,Prod.mk.injEq] at he
      obtain ⟨c,q,rfl,rfl⟩ := he
      exact (loadN_good H h1 hu hs (cOpd_rep r h3) q).op
    · rename_i hs
      injection hc with hc; subst hc
      simp only [evOp,Option.map_eq_some_iff,Prod.mk.injEq] at he
      obtain ⟨c,q,rfl,rfl⟩ := he
      exact (load1_good H hu (by simpa using hs) (cOpd_rep r h3) q).op
  · cases hc
theorem snd_store {P:Program} {L:Loc} {h h':List Ob} {w:World} (H:HRel L h w) {n:Nat} {t:Nat → V} {a:Act} (r:TRel L w n t a.tmps) {dst:_} {ty:_} {pos:_} {after:_} {guard:_} {T:_} {x:_} {y:_} {eo:EOp} {v:V} (hc:compOp P n (.store T x y) = some eo) (he:evOp eo t h = some (v,h')) :
    GoodOp P L w (execOp a.eval ⟨dst,.store T x y,ty,pos,after,guard⟩) v h' := by
  simp only [compOp] at hc
  split at hc
  · rename_i i e1 e2 h1 h2 h3
    injection hc with hc; subst hc
    simp only [evOp,Option.map_eq_some_iff,Prod.mk.injEq] at he
    obtain ⟨c,q,rfl,rfl⟩ := he
    exact good_skip (store_good H h1 (cOpd_rep r h2) (cOpd_rep r h3) q)
  · cases hc
theorem snd_nilCheck {P:Program} {L:Loc} {h h':List Ob} {w:World} (H:HRel L h w) {n:Nat} {t:Nat → V} {a:Act} (r:TRel L w n t a.tmps) {dst:_} {ty:_} {pos:_} {after:_} {guard:_} {x:_} {eo:EOp} {v:V} (hc:compOp P n (.nilCheck x) = some eo) (he:evOp eo t h = some (v,h')) :
    GoodOp P L w (execOp a.eval ⟨dst,.nilCheck x,ty,pos,after,guard⟩) v h' := by
  simp only [compOp,Option.map_eq_some_iff] at hc
  obtain ⟨e,h1,rfl⟩ := hc
  simp only [evOp,Option.map_eq_some_iff,Prod.mk.injEq] at he
  obtain ⟨c,q,rfl,rfl⟩ := he
  have rx := cOpd_rep r h1
  generalize hx:a.eval x = z at rx
  unfold evNilck at q
  split at q
  · rename_i id i j hv
    rw [hv] at rx
    split at q
    · rename_i hal
      injection q with q; subst q
      obtain ⟨p,hp⟩ := alive_at H hal
      cases rx with
      | ptr g => exact .same H (by simp only [execOp,hx]; rfl) (.ptr g)
      | ptrD _ g => rw [hp] at g; cases g
    · cases q
  · rename_i e' j hv
    rw [hv] at rx
    injection q with q; subst q
    cases rx with
    | ref f g1 g2 g3 g4 => exact .same H (by simp only [execOp,hx]; rfl) (.ref f g1 g2 g3 g4)
  · rename_i f cs hv
    rw [hv] at rx
    injection q with q; subst q
    cases rx with
    | fn vs g1 g2 => exact .same H (by simp only [execOp,hx]; rfl) (.fn vs g1 g2)
  · cases q
theorem snd_binOp {P:Program} {L:Loc} {h h':List Ob} {w:World} (H:HRel L h w) {n:Nat} {t:Nat → V} {a:Act} (r:TRel L w n t a.tmps) {dst:_} {ty:_} {pos:_} {after:_} {guard:_} {op:_} {T:_} {x:_} {y:_} {T2:_} {eo:EOp} {v:V} (hc:compOp P n (.binOp op T x y T2) = some eo) (he:evOp eo t h = some (v,h')) :
    GoodOp P L w (execOp a.eval ⟨dst,.binOp op T x y T2,ty,pos,after,guard⟩) v h' := by
  simp only [compOp] at hc
  split at hc
  · rename_i e1 e2 h1 h2
    split at hc
    · rename_i hop
      split at hc
      · injection hc with hc; subst hc
        simp only [evOp,Option.map_eq_some_iff,Prod.mk.injEq] at he
        obtain ⟨c,q,rfl,rfl⟩ := he
        exact (binop_run H (cOpd_rep r h1) (cOpd_rep r h2) q).op
      · simp only [Option.map_eq_some_iff] at hc
        obtain ⟨T',hT,rfl⟩ := hc
        simp only [evOp,Option.map_eq_some_iff,Prod.mk.injEq] at he
        obtain ⟨c,q,rfl,rfl⟩ := he
        have := eqop_run (P := P) (x := x) (y := y) H (eqTOf_fits hT) hop (cOpd_rep r h1) (cOpd_rep r h2) q
        simp only [decide_eq_true_eq]
        exact this.op
    · injection hc with hc; subst hc
      simp only [evOp,Option.map_eq_some_iff,Prod.mk.injEq] at he
      obtain ⟨c,q,rfl,rfl⟩ := he
      exact (binop_run H (cOpd_rep r h1) (cOpd_rep r h2) q).op
  · cases hc
theorem snd_unOp {P:Program} {L:Loc} {h h':List Ob} {w:World} (H:HRel L h w) {n:Nat} {t:Nat → V} {a:Act} (r:TRel L w n t a.tmps) {dst:_} {ty:_} {pos:_} {after:_} {guard:_} {op:_} {T:_} {x:_} {eo:EOp} {v:V} (hc:compOp P n (.unOp op T x) = some eo) (he:evOp eo t h = some (v,h')) :
    GoodOp P L w (execOp a.eval ⟨dst,.unOp op T x,ty,pos,after,guard⟩) v h' := by
  simp only [compOp,Option.map_eq_some_iff] at hc
  obtain ⟨e,h1,rfl⟩ := hc
  simp only [evOp,Option.map_eq_some_iff,Prod.mk.injEq] at he
  obtain ⟨c,q,rfl,rfl⟩ := he
  exact (un_good H (cOpd_rep r h1) q).op
theorem snd_convert {P:Program} {L:Loc} {h h':List Ob} {w:World} (H:HRel L h w) {n:Nat} {t:Nat → V} {a:Act} (r:TRel L w n t a.tmps) {dst:_} {ty:_} {pos:_} {after:_} {guard:_} {s:_} {d:_} {x:_} {eo:EOp} {v:V} (hc:compOp P n (.convert s d x) = some eo) (he:evOp eo t h = some (v,h')) :
    GoodOp P L w (execOp a.eval ⟨dst,.convert s d x,ty,pos,after,guard⟩) v h' := by
  simp only [compOp] at hc
  split at hc
  · rename_i k1 k e h1 h2 h3
    injection hc with hc; subst hc
    simp only [evOp] at he
    split at he
    · rename_i k2 m hm
      injection he with he; injection he with he1 he2; subst he1; subst he2
      have rx := cOpd_rep r h3
      rw [hm] at rx
      have hx := rx.int_inv
      refine Good.op (.same H (x := .int k (k.wrap m)) ?_ (.int _ _))
      rw [hx]
      simp only [convert,Sem.run_bind,run_underlying h1,run_underlying h2,Result.andThen_ok,Conv.intToInt,Sem.run_pure]
    · cases he
  · rename_i e h1 h2 h3
    injection hc with hc; subst hc
    simp only [evOp] at he
    split at he
    · rename_i l hl
      injection he with he; injection he with he1 he2; subst he1; subst he2
      have rx := cOpd_rep r h3
      rw [hl] at rx
      generalize hx:a.eval x = z at rx
      cases rx
      refine Good.op (.same H (x := .string ⟨l.toArray⟩) ?_ (.str _))
      rw [hx]
      simp only [convert,Sem.run_bind,run_underlying h1,run_underlying h2,Result.andThen_ok,Sem.run_pure]
    · cases he
  · rename_i e0 e h1 h2 h3
    split at hc
    · rename_i h8
      injection hc with hc; subst hc
      simp only [evOp] at he
      split at he
      · rename_i l hl
        injection he with he; injection he with he1 he2; subst he1; subst he2
        have rx := cOpd_rep r h3
        rw [hl] at rx
        have h8':P.underlying e0 = some (.int .u8) := by
          revert h8; cases P.underlying e0 with
          | none => intro h; cases h
          | some d => cases d <;> intro h <;> first | cases h; done | skip
                      rename_i k; cases k <;> first | rfl | cases h
        exact (toBytes_good H h1 h2 h8' rx).op
      · cases he
    · cases hc
  · rename_i e0 e1 e h1 h2 h3
    split at hc
    · rename_i hsd
      subst hsd
      split at hc
      · rename_i h8
        injection hc with hc; subst hc
        simp only [evOp,Option.map_eq_some_iff,Prod.mk.injEq] at he
        obtain ⟨c,q,rfl,rfl⟩ := he
        have h8':P.underlying e0 = some (.int .u8) := by
          revert h8; cases P.underlying e0 with
          | none => intro h; cases h
          | some d => cases d <;> intro h <;> first | cases h; done | skip
                      rename_i k; cases k <;> first | rfl | cases h
        exact (strish_good H h1 h8' (cOpd_rep r h3) q).op
      · cases hc
    · cases hc
  · rename_i e0 e h1 h2 h3
    split at hc
    · rename_i h8
      injection hc with hc; subst hc
      simp only [evOp,Option.map_eq_some_iff,Prod.mk.injEq] at he
      obtain ⟨c,q,rfl,rfl⟩ := he
      have h8':P.underlying e0 = some (.int .u8) := by
        revert h8; cases P.underlying e0 with
        | none => intro h; cases h
        | some d => cases d <;> intro h <;> first | cases h; done | skip
                    rename_i k; cases k <;> first | rfl | cases h
      exact (toStr_good H h1 h8' h2 (cOpd_rep r h3) q).op
    · cases hc
  · cases hc
theorem snd_makeFunc {P:Program} {L:Loc} {h h':List Ob} {w:World} (H:HRel L h w) {n:Nat} {t:Nat → V} {a:Act} (r:TRel L w n t a.tmps) {dst:_} {ty:_} {pos:_} {after:_} {guard:_} {fn:_} {first:_} {caps:_} {eo:EOp} {v:V} (hc:compOp P n (.makeFunc fn first caps) = some eo) (he:evOp eo t h = some (v,h')) :
    GoodOp P L w (execOp a.eval ⟨dst,.makeFunc fn first caps,ty,pos,after,guard⟩) v h' := by
  cases fn <;> simp only [compOp] at hc <;> first | (cases hc; done) | skip
  split at hc
  · rename_i cs hf h1
    injection hc with hc; subst hc
    simp only [evOp,Option.some.injEq,Prod.mk.injEq] at he
    obtain ⟨rfl,rfl⟩ := he
    obtain ⟨g1,g2⟩ := caps_spec r h1
    obtain ⟨f1,f2⟩ := caps_spec r hf
    have hfe:first.map a.eval = #[] := by
      have:first.toList.toArray.map a.eval = first.map a.eval := by simp
      rw [this] at f1
      exact Array.eq_empty_of_size_eq_zero (by simpa using f1)
    exact Good.op (.same H (x := .func (.func _) #[] (caps.toList.toArray.map a.eval)) (by simp only [execOp,hfe]; rfl) (.fn _ g1 g2))
  · rename_i c cs hf h1
    injection hc with hc; subst hc
    simp only [evOp,Option.some.injEq,Prod.mk.injEq] at he
    obtain ⟨rfl,rfl⟩ := he
    obtain ⟨g1,g2⟩ := caps_spec r hf
    obtain ⟨f1,f2⟩ := caps_spec r h1
    have hce:caps.map a.eval = #[] := by
      have:caps.toList.toArray.map a.eval = caps.map a.eval := by simp
      rw [this] at f1
      exact Array.eq_empty_of_size_eq_zero (by simpa using f1)
    exact Good.op (.same H (x := .func (.func _) (first.toList.toArray.map a.eval) #[]) (by simp only [execOp,hce]; rfl) (.bm _ g1 g2))
  · cases hc
theorem snd_makeMap {P:Program} {L:Loc} {h h':List Ob} {w:World} (H:HRel L h w) {n:Nat} {t:Nat → V} {a:Act} (r:TRel L w n t a.tmps) {dst:_} {ty:_} {pos:_} {after:_} {guard:_} {T:_} {q:_} {eo:EOp} {v:V} (hc:compOp P n (.makeMap T q) = some eo) (he:evOp eo t h = some (v,h')) :
    GoodOp P L w (execOp a.eval ⟨dst,.makeMap T q,ty,pos,after,guard⟩) v h' := by
  cases q <;> simp only [compOp] at hc <;> first | (cases hc; done) | skip
  injection hc with hc; subst hc
  simp only [evOp,Option.some.injEq,Prod.mk.injEq] at he
  obtain ⟨rfl,rfl⟩ := he
  exact (mkmap_good H (.inl rfl)).op
theorem snd_makeSlice {P:Program} {L:Loc} {h h':List Ob} {w:World} (H:HRel L h w) {n:Nat} {t:Nat → V} {a:Act} (r:TRel L w n t a.tmps) {dst:_} {ty:_} {pos:_} {after:_} {guard:_} {T:_} {l:_} {c:_} {eo:EOp} {v:V} (hc:compOp P n (.makeSlice T l c) = some eo) (he:evOp eo t h = some (v,h')) :
    GoodOp P L w (execOp a.eval ⟨dst,.makeSlice T l c,ty,pos,after,guard⟩) v h' := by
  simp only [compOp] at hc
  split at hc
  · rename_i e l' c' hu h1 h2
    split at hc
    · rename_i i z h3 h4
      split at hc
      · rename_i hh
        injection hc with hc; subst hc
        obtain ⟨i',zv,g1,g2,g3⟩ := zeroOf_spec h4
        rw [h3] at g1; injection g1 with g1; subst g1
        simp only [evOp] at he
        split at he
        · rename_i k1 l1 k2 c1 q1 q2
          have rl := cOpd_rep r h1
          have rc := cOpd_rep r h2
          rw [q1] at rl; rw [q2] at rc
          have e1 := rl.int_inv
          have e2 := rc.int_inv
          show GoodOp P L w (do pure (.value (← Instr.makeSlice T (a.eval l) (a.eval c)))) v h'
          rw [e1,e2]
          exact (make_good H hu h3 g2 g3 hh.1 hh.2 he).op
        · cases he
      · cases hc
    · cases hc
  · cases hc
theorem snd_slice {P:Program} {L:Loc} {h h':List Ob} {w:World} (H:HRel L h w) {n:Nat} {t:Nat → V} {a:Act} (r:TRel L w n t a.tmps) {dst:_} {ty:_} {pos:_} {after:_} {guard:_} {T:_} {x:_} {lo:_} {hi:_} {mx:_} {eo:EOp} {v:V} (hc:compOp P n (.slice T x lo hi mx) = some eo) (he:evOp eo t h = some (v,h')) :
    GoodOp P L w (execOp a.eval ⟨dst,.slice T x lo hi mx,ty,pos,after,guard⟩) v h' := by
  simp only [compOp] at hc
  split at hc
  · rename_i x' lo' hi' hu h1 h2 h3 h4
    injection hc with hc; subst hc
    simp only [evOp] at he
    split at he
    · rename_i l hl
      simp only [Option.map_eq_some_iff,Prod.mk.injEq] at he
      obtain ⟨c,q,rfl,rfl⟩ := he
      have rx := cOpd_rep r h1
      rw [hl] at rx
      have hm:mx = none := by cases mx with
        | none => rfl
        | some _ => simp [cOpt] at h4
      subst hm
      exact (slcS_good H hu rx (cOpt_rep r h2) (cOpt_rep r h3) q).op
    · cases he
  · rename_i e x' lo' hi' mx' hu h1 h2 h3 h4
    simp only [Option.map_eq_some_iff] at hc
    obtain ⟨i,hinf,rfl⟩ := hc
    simp only [evOp] at he
    have rx := cOpd_rep r h1
    split at he
    · rename_i id off len hv
      split at he
      · rename_i es s hob
        split at he
        · rename_i hs
          subst hs
          simp only [Option.map_eq_some_iff,Prod.mk.injEq] at he
          obtain ⟨c,q,rfl,rfl⟩ := he
          rw [hv] at rx
          exact (slcL_good H hu hinf (fun _ _ _ z => by injection z with z1 _ _; subst z1; exact ⟨es,hob⟩) (fun _ z => by cases z) rx (cOpt_rep r h2) (cOpt_rep r h3) (cOpt_rep r h4) q).op
        · cases he
      · cases he
    · rename_i es hv
      split at he
      · rename_i hh
        simp only [Option.map_eq_some_iff,Prod.mk.injEq] at he
        obtain ⟨c,q,rfl,rfl⟩ := he
        rw [hv] at rx
        exact (slcL_good H hu hinf (fun _ _ _ z => by cases z) (fun _ z => by injection z with z; subst z; exact fun k e hk => (headOk_spec rx hh k e hk).1) rx (cOpt_rep r h2) (cOpt_rep r h3) (cOpt_rep r h4) q).op
      · cases he
    · rename_i hv1 hv2
      simp only [Option.map_eq_some_iff,Prod.mk.injEq] at he
      obtain ⟨c,q,rfl,rfl⟩ := he
      exact (slcL_good H hu hinf (fun _ _ _ z => absurd z (hv1 _ _ _)) (fun _ z => absurd z (hv2 _)) rx (cOpt_rep r h2) (cOpt_rep r h3) (cOpt_rep r h4) q).op
  · rename_i k e x' lo' hi' hu h1 h2 h3 h4
    simp only [Option.bind_eq_some_iff] at hc
    obtain ⟨i,hinf,hc⟩ := hc
    split at hc
    · rename_i hp
      injection hc with hc; subst hc
      simp only [evOp,Option.map_eq_some_iff,Prod.mk.injEq] at he
      obtain ⟨c,q,rfl,rfl⟩ := he
      have hm:mx = none := by cases mx with
        | none => rfl
        | some _ => simp [cOpt] at h4
      subst hm
      exact (slcA_good H hu hinf hp (cOpd_rep r h1) (cOpt_rep r h2) (cOpt_rep r h3) q).op
    · cases hc
  · cases hc
theorem snd_fieldAddr {P:Program} {L:Loc} {h h':List Ob} {w:World} (H:HRel L h w) {n:Nat} {t:Nat → V} {a:Act} (r:TRel L w n t a.tmps) {dst:_} {ty:_} {pos:_} {after:_} {guard:_} {T:_} {x:_} {k:_} {eo:EOp} {v:V} (hc:compOp P n (.fieldAddr T x k) = some eo) (he:evOp eo t h = some (v,h')) :
    GoodOp P L w (execOp a.eval ⟨dst,.fieldAddr T x k,ty,pos,after,guard⟩) v h' := by
  simp only [compOp] at hc
  split at hc
  · rename_i fs x' hu h1
    split at hc
    · rename_i g hg
      simp only [Option.bind_eq_some_iff] at hc
      obtain ⟨i,hinf,hc⟩ := hc
      split at hc
      · rename_i hz
        injection hc with hc; subst hc
        simp only [evOp] at he
        have rx := cOpd_rep r h1
        split at he
        · rename_i id b j hv
          split at he
          · rename_i hal
            injection he with he; injection he with he1 he2; subst he1; subst he2
            exact (faddr_good H (fun id' i' j' z => by rw [hv] at z; injection z with z1 _ _; rw [← z1]; exact hal) hu hg hinf hz rx (by rw [hv]; rfl)).op
          · cases he
        · rename_i e' j hv
          injection he with he; injection he with he1 he2; subst he1; subst he2
          exact (faddr_good H (fun id' i' j' z => by rw [hv] at z; cases z) hu hg hinf hz rx (by rw [hv]; rfl)).op
        · cases he
      · cases hc
    · cases hc
  · cases hc
theorem snd_field {P:Program} {L:Loc} {h h':List Ob} {w:World} (H:HRel L h w) {n:Nat} {t:Nat → V} {a:Act} (r:TRel L w n t a.tmps) {dst:_} {ty:_} {pos:_} {after:_} {guard:_} {T:_} {x:_} {k:_} {eo:EOp} {v:V} (hc:compOp P n (.field T x k) = some eo) (he:evOp eo t h = some (v,h')) :
    GoodOp P L w (execOp a.eval ⟨dst,.field T x k,ty,pos,after,guard⟩) v h' := by
  simp only [compOp] at hc
  split at hc
  · rename_i fs x' hu h1
    split at hc
    · rename_i g hg
      split at hc
      · rename_i i d hinf hd
        have hs:(P.underlying g.type).isSome = true := by rw [hd]; rfl
        split at hc
        · rename_i hst
          injection hc with hc; subst hc
          simp only [evOp,Option.map_eq_some_iff,Prod.mk.injEq] at he
          obtain ⟨c,q,rfl,rfl⟩ := he
          exact (field_good H hu hg hinf hs (cOpd_rep r h1) (.inr ⟨hst,q⟩)).op
        · rename_i hst
          injection hc with hc; subst hc
          simp only [evOp,Option.map_eq_some_iff,Prod.mk.injEq] at he
          obtain ⟨c,q,rfl,rfl⟩ := he
          exact (field_good H hu hg hinf hs (cOpd_rep r h1) (.inl ⟨by simpa using hst,q⟩)).op
      · cases hc
    · cases hc
  · cases hc
theorem snd_indexAddr {P:Program} {L:Loc} {h h':List Ob} {w:World} (H:HRel L h w) {n:Nat} {t:Nat → V} {a:Act} (r:TRel L w n t a.tmps) {dst:_} {ty:_} {pos:_} {after:_} {guard:_} {T:_} {x:_} {i:_} {eo:EOp} {v:V} (hc:compOp P n (.indexAddr T x i) = some eo) (he:evOp eo t h = some (v,h')) :
    GoodOp P L w (execOp a.eval ⟨dst,.indexAddr T x i,ty,pos,after,guard⟩) v h' := by
  simp only [compOp] at hc
  split at hc
  · rename_i k e x' i' hu h1 h2
    simp only [Option.map_eq_some_iff] at hc
    obtain ⟨ie,hinf,rfl⟩ := hc
    simp only [evOp] at he
    split at he
    · rename_i kk m hm
      simp only [Option.map_eq_some_iff,Prod.mk.injEq] at he
      obtain ⟨c,q,rfl,rfl⟩ := he
      have ri := cOpd_rep r h2
      rw [hm] at ri
      show GoodOp P L w (do pure (.value (← Instr.indexAt T (a.eval x) (a.eval i)))) _ _
      rw [ri.int_inv]
      exact (iaddrA_good H hu hinf (cOpd_rep r h1) q).op
    · cases he
  · rename_i e x' i' hu h1 h2
    simp only [Option.map_eq_some_iff] at hc
    obtain ⟨ie,hinf,rfl⟩ := hc
    simp only [evOp] at he
    split at he
    · rename_i kk m hm
      simp only [Option.map_eq_some_iff,Prod.mk.injEq] at he
      obtain ⟨c,q,rfl,rfl⟩ := he
      have ri := cOpd_rep r h2
      rw [hm] at ri
      show GoodOp P L w (do pure (.value (← Instr.indexAt T (a.eval x) (a.eval i)))) _ _
      rw [ri.int_inv]
      exact (iaddrL_good H hu hinf (cOpd_rep r h1) q).op
    · cases he
  · cases hc
theorem snd_index {P:Program} {L:Loc} {h h':List Ob} {w:World} (H:HRel L h w) {n:Nat} {t:Nat → V} {a:Act} (r:TRel L w n t a.tmps) {dst:_} {ty:_} {pos:_} {after:_} {guard:_} {T:_} {x:_} {i:_} {eo:EOp} {v:V} (hc:compOp P n (.index T x i) = some eo) (he:evOp eo t h = some (v,h')) :
    GoodOp P L w (execOp a.eval ⟨dst,.index T x i,ty,pos,after,guard⟩) v h' := by
  simp only [compOp] at hc
  split at hc
  · rename_i x' i' hu h1 h2
    injection hc with hc; subst hc
    simp only [evOp] at he
    split at he
    · rename_i l kk m hl hm
      simp only [Option.map_eq_some_iff,Prod.mk.injEq] at he
      obtain ⟨c,q,rfl,rfl⟩ := he
      have rx := cOpd_rep r h1
      have ri := cOpd_rep r h2
      rw [hl] at rx; rw [hm] at ri
      show GoodOp P L w (do pure (.value (← Instr.index T (a.eval x) (a.eval i)))) _ _
      rw [ri.int_inv]
      exact (idxS_good H hu rx q).op
    · cases he
  · cases hc
theorem snd_extract {P:Program} {L:Loc} {h h':List Ob} {w:World} (H:HRel L h w) {n:Nat} {t:Nat → V} {a:Act} (r:TRel L w n t a.tmps) {dst:_} {ty:_} {pos:_} {after:_} {guard:_} {x:_} {i:_} {eo:EOp} {v:V} (hc:compOp P n (.extract x i) = some eo) (he:evOp eo t h = some (v,h')) :
    GoodOp P L w (execOp a.eval ⟨dst,.extract x i,ty,pos,after,guard⟩) v h' := by
  simp only [compOp,Option.map_eq_some_iff] at hc
  obtain ⟨e,h1,rfl⟩ := hc
  simp only [evOp,Option.map_eq_some_iff,Prod.mk.injEq] at he
  obtain ⟨c,q,rfl,rfl⟩ := he
  exact (ext_good H (cOpd_rep r h1) q).op
theorem snd_lookup {P:Program} {L:Loc} {h h':List Ob} {w:World} (H:HRel L h w) {n:Nat} {t:Nat → V} {a:Act} (r:TRel L w n t a.tmps) {dst:_} {ty:_} {pos:_} {after:_} {guard:_} {T:_} {m:_} {k:_} {ok:_} {eo:EOp} {v:V} (hc:compOp P n (.lookup T m k ok) = some eo) (he:evOp eo t h = some (v,h')) :
    GoodOp P L w (execOp a.eval ⟨dst,.lookup T m k ok,ty,pos,after,guard⟩) v h' := by
  simp only [compOp] at hc
  split at hc
  · rename_i kT eT m' k' hu h1 h2
    split at hc
    · rename_i kt z h3 h4
      injection hc with hc; subst hc
      obtain ⟨i,zv,g1,g2,g3⟩ := zeroOf_spec h4
      simp only [evOp,Option.map_eq_some_iff,Prod.mk.injEq] at he
      obtain ⟨c,q,rfl,rfl⟩ := he
      exact (lookup_good H hu (lkOf_fits h3) g1 g2 g3 (cOpd_rep r h1) (cOpd_rep r h2) q).op
    · cases hc
  · cases hc
theorem snd_mapUpdate {P:Program} {L:Loc} {h h':List Ob} {w:World} (H:HRel L h w) {n:Nat} {t:Nat → V} {a:Act} (r:TRel L w n t a.tmps) {dst:_} {ty:_} {pos:_} {after:_} {guard:_} {T:_} {m:_} {k:_} {x:_} {eo:EOp} {v:V} (hc:compOp P n (.mapUpdate T m k x) = some eo) (he:evOp eo t h = some (v,h')) :
    GoodOp P L w (execOp a.eval ⟨dst,.mapUpdate T m k x,ty,pos,after,guard⟩) v h' := by
  simp only [compOp] at hc
  split at hc
  · rename_i kT eT m' k' x' hu h1 h2 h3
    simp only [Option.map_eq_some_iff] at hc
    obtain ⟨kt,h4,rfl⟩ := hc
    simp only [evOp,Option.map_eq_some_iff,Prod.mk.injEq] at he
    obtain ⟨c,q,rfl,rfl⟩ := he
    exact good_skip (mapUpd_good H hu (lkOf_fits h4) (cOpd_rep r h1) (cOpd_rep r h2) (cOpd_rep r h3) q)
  · cases hc
theorem snd_call {P:Program} {L:Loc} {h h':List Ob} {w:World} (H:HRel L h w) {n:Nat} {t:Nat → V} {a:Act} (r:TRel L w n t a.tmps) {dst:_} {ty:_} {pos:_} {after:_} {guard:_} {c:_} {eo:EOp} {v:V} (hc:compOp P n (.call c) = some eo) (he:evOp eo t h = some (v,h')) :
    GoodOp P L w (execOp a.eval ⟨dst,.call c,ty,pos,after,guard⟩) v h' := by
  obtain ⟨callee,xs,ts⟩ := c
  cases callee <;> simp only [compOp] at hc <;> first | (cases hc; done) | skip
  rename_i b
  rw [Go.BigFrame.execOp_builtin]
  unfold compBuiltin at hc
  split at hc
  · -- len
    rename_i t0 ts' x hts hxs
    have hxs':xs = #[x] := by rw [← Array.toArray_toList (xs := xs),hxs]
    have hmp:Array.map a.eval #[x] = #[a.eval x] := by simp
    have hts':ts[0]? = some t0 := by rw [← Array.getElem?_toList,hts]; rfl
    subst hxs'
    rw [hmp]
    split at hc
    · rename_i e hu h1
      injection hc with hc; subst hc
      simp only [evOp] at he
      split at he
      · rename_i l hl
        injection he with he; injection he with he1 he2; subst he1; subst he2
        have rx := cOpd_rep r h1
        rw [hl] at rx
        exact (lenS_good H hu hts' rx).op
      · cases he
    · rename_i e0 e hu h1
      injection hc with hc; subst hc
      simp only [evOp,Option.map_eq_some_iff,Prod.mk.injEq] at he
      obtain ⟨c,q,rfl,rfl⟩ := he
      exact (lenL_good H hu hts' (cOpd_rep r h1) q).op
    · rename_i e0 e1 e hu h1
      injection hc with hc; subst hc
      simp only [evOp,Option.map_eq_some_iff,Prod.mk.injEq] at he
      obtain ⟨c,q,rfl,rfl⟩ := he
      exact (lenM_good H hu hts' (cOpd_rep r h1) q).op
    · cases hc
  · -- cap
    rename_i t0 ts' x hts hxs
    have hxs':xs = #[x] := by rw [← Array.toArray_toList (xs := xs),hxs]
    have hmp:Array.map a.eval #[x] = #[a.eval x] := by simp
    have hts':ts[0]? = some t0 := by rw [← Array.getElem?_toList,hts]; rfl
    subst hxs'
    rw [hmp]
    split at hc
    · rename_i e0 e hu h1
      injection hc with hc; subst hc
      simp only [evOp,Option.map_eq_some_iff,Prod.mk.injEq] at he
      obtain ⟨c,q,rfl,rfl⟩ := he
      exact (cap_good H hu hts' (cOpd_rep r h1) q).op
    · cases hc
  · -- append
    rename_i t0 t2 x y hts hxs
    have hxs':xs = #[x,y] := by rw [← Array.toArray_toList (xs := xs),hxs]
    have hmp:Array.map a.eval #[x,y] = #[a.eval x,a.eval y] := by simp
    have hts':ts = #[t0,t2] := by rw [← Array.toArray_toList (xs := ts),hts]
    subst hxs'
    rw [hmp]; subst hts'
    split at hc
    · rename_i e k2 x' y' hu hu2 h1 h2
      split at hc
      · rename_i i hinf
        split at hc
        · rename_i hz
          have hz':i.zero = some (.int .u8 0) := hz
          simp only [if_true] at hc
          split at hc
          · rename_i hh
            injection hc with hc; subst hc
            simp only [evOp] at he
            split at he
            · rename_i kk m hm
              have ry := cOpd_rep r h2
              rw [hm] at ry
              have g := appZ_good (P := P) (ts := #[t0,t2]) (ty := ty) (kk := kk) H rfl rfl hu hu2 hinf hz' hh.1 hh.2 (cOpd_rep r h1) he
              rw [ry.int_inv]
              exact g.op
            · cases he
          · cases hc
        · simp at hc
      · cases hc
    · cases hc
    · rename_i e u2 x' y' hne0 hne hu hu2 h1 h2
      split at hc
      · rename_i i hinf
        split at hc
        · rename_i z hz
          split at hc
          · rename_i hh
            injection hc with hc; subst hc
            simp only [evOp,Option.bind_eq_some_iff] at he
            obtain ⟨es,q1,q2⟩ := he
            exact (app_good H ⟨rfl,rfl,hu,hu2,fun k hk => hne _ (by rw [← hk]) ,hinf,hz,hh.1,hh.2.1,hh.2.2⟩ (cOpd_rep r h1) (cOpd_rep r h2) q1 q2).op
          · cases hc
        · cases hc
      · cases hc
    · cases hc
  · -- copy
    rename_i t0 ts' x y hts hxs
    have hxs':xs = #[x,y] := by rw [← Array.toArray_toList (xs := xs),hxs]
    have hmp:Array.map a.eval #[x,y] = #[a.eval x,a.eval y] := by simp
    have hts':ts[0]? = some t0 := by rw [← Array.getElem?_toList,hts]; rfl
    subst hxs'
    rw [hmp]
    split at hc
    · rename_i e x' y' hu h1 h2
      split at hc
      · rename_i i hinf
        split at hc
        · rename_i hp
          injection hc with hc; subst hc
          simp only [evOp,Option.bind_eq_some_iff] at he
          obtain ⟨es,q1,q2⟩ := he
          exact (copy_good H hts' hu hinf hp (cOpd_rep r h1) (cOpd_rep r h2) q1 q2).op
        · cases hc
      · cases hc
    · cases hc
  · -- min
    rename_i x y hxs
    have hxs':xs = #[x,y] := by rw [← Array.toArray_toList (xs := xs),hxs]
    have hmp:Array.map a.eval #[x,y] = #[a.eval x,a.eval y] := by simp
    subst hxs'
    rw [hmp]
    split at hc
    · rename_i x' y' h1 h2
      injection hc with hc; subst hc
      simp only [evOp,Option.map_eq_some_iff,Prod.mk.injEq] at he
      obtain ⟨c,q,rfl,rfl⟩ := he
      have := minmax_good (P := P) (ts := ts) (ty := ty) H (cOpd_rep r h1) (cOpd_rep r h2) q
      exact this.op
    · cases hc
  · -- max
    rename_i x y hxs
    have hxs':xs = #[x,y] := by rw [← Array.toArray_toList (xs := xs),hxs]
    have hmp:Array.map a.eval #[x,y] = #[a.eval x,a.eval y] := by simp
    subst hxs'
    rw [hmp]
    split at hc
    · rename_i x' y' h1 h2
      injection hc with hc; subst hc
      simp only [evOp,Option.map_eq_some_iff,Prod.mk.injEq] at he
      obtain ⟨c,q,rfl,rfl⟩ := he
      have := minmax_good (P := P) (ts := ts) (ty := ty) H (cOpd_rep r h1) (cOpd_rep r h2) q
      exact this.op
    · cases hc
  · -- max of several
    rename_i x ys hne hxs
    have hxs':xs = #[x] ++ ys.toArray := by rw [← Array.toArray_toList (xs := xs),hxs]; simp
    split at hc
    · rename_i x' ys' h1 h2
      injection hc with hc; subst hc
      simp only [evOp,Option.map_eq_some_iff,Prod.mk.injEq] at he
      obtain ⟨c,q,rfl,rfl⟩ := he
      obtain ⟨g1,g2⟩ := caps_spec r h2
      have := maxL_good (P := P) H (ys'.map (·.get t)) (ys.map a.eval) _ _ _ (cOpd_rep r h1) (by simpa using g1) (fun k y hk => by
        have z := g2 k y hk
        simpa using z) q
      have e:Builtin.max_ ts ty (Array.map a.eval xs) = (ys.map a.eval).foldlM Builtin.max2 (a.eval x) := by
        subst hxs'
        simp [Builtin.max_]
      have e2 := this.op
      rw [← e] at e2
      exact e2
    · cases hc
  · -- delete
    rename_i t0 ts' x y hts hxs
    have hxs':xs = #[x,y] := by rw [← Array.toArray_toList (xs := xs),hxs]
    have hmp:Array.map a.eval #[x,y] = #[a.eval x,a.eval y] := by simp
    have hts':ts[0]? = some t0 := by rw [← Array.getElem?_toList,hts]; rfl
    subst hxs'
    rw [hmp]
    split at hc
    · rename_i kT eT x' y' hu h1 h2
      simp only [Option.map_eq_some_iff] at hc
      obtain ⟨kt,h4,rfl⟩ := hc
      simp only [evOp,Option.map_eq_some_iff,Prod.mk.injEq] at he
      obtain ⟨c,q,rfl,rfl⟩ := he
      exact (delete_good H hts' hu (lkOf_fits h4) (cOpd_rep r h1) (cOpd_rep r h2) q).op
    · cases hc
  · cases hc
theorem snd_range {P:Program} {L:Loc} {h h':List Ob} {w:World} (H:HRel L h w) {n:Nat} {t:Nat → V} {a:Act} (r:TRel L w n t a.tmps) {dst:_} {ty:_} {pos:_} {after:_} {guard:_} {T:_} {x:_} {eo:EOp} {v:V} (hc:compOp P n (.range T x) = some eo) (he:evOp eo t h = some (v,h')) :
    GoodOp P L w (execOp a.eval ⟨dst,.range T x,ty,pos,after,guard⟩) v h' := by
  simp only [compOp] at hc
  split at hc
  · rename_i e hu h1
    injection hc with hc; subst hc
    exact (rangeS_good H hu (cOpd_rep r h1) he).op
  · rename_i e hu h1
    injection hc with hc; subst hc
    exact (rangeM_good H hu (cOpd_rep r h1) he).op
  · cases hc
theorem snd_next {P:Program} {L:Loc} {h h':List Ob} {w:World} (H:HRel L h w) {n:Nat} {t:Nat → V} {a:Act} (r:TRel L w n t a.tmps) {dst:_} {ty:_} {pos:_} {after:_} {guard:_} {x:_} {q:_} {eo:EOp} {v:V} (hc:compOp P n (.next x q) = some eo) (he:evOp eo t h = some (v,h')) :
    GoodOp P L w (execOp a.eval ⟨dst,.next x q,ty,pos,after,guard⟩) v h' := by
  cases q <;> simp only [compOp] at hc <;> first | (cases hc; done) | skip
  simp only [Option.map_eq_some_iff] at hc
  obtain ⟨e,h1,rfl⟩ := hc
  exact (nextS_good H (cOpd_rep r h1) he).op
theorem snd_entry {P:Program} {L:Loc} {h h':List Ob} {w:World} (H:HRel L h w) {n:Nat} {t:Nat → V} {a:Act} (r:TRel L w n t a.tmps) {dst:_} {ty:_} {pos:_} {after:_} {guard:_} {x:_} {eo:EOp} {v:V} (hc:compOp P n (.entry x) = some eo) (he:evOp eo t h = some (v,h')) :
    GoodOp P L w (execOp a.eval ⟨dst,.entry x,ty,pos,after,guard⟩) v h' := by
  simp only [compOp,Option.map_eq_some_iff] at hc
  obtain ⟨e,h1,rfl⟩ := hc
  simp only [evOp,Option.map_eq_some_iff,Prod.mk.injEq] at he
  obtain ⟨c,q,rfl,rfl⟩ := he
  exact (entry_good H (cOpd_rep r h1) q).op
theorem evOp_sound {P:Program} {L:Loc} {h h':List Ob} {w:World} (H:HRel L h w) {n:Nat} {t:Nat → V} {a:Act} (r:TRel L w n t a.tmps) {o:Oper} {eo:EOp} {v:V} (hc:compOp P n o.op = some eo) (he:evOp eo t h = some (v,h')) :
    GoodOp P L w (execOp a.eval o) v h' := by
  obtain ⟨dst,op,ty,pos,after,guard⟩ := o
  simp only at hc
  cases op
  case move x => exact snd_move H r hc he
  case assign x => exact snd_assign H r hc he
  case pick c x y => exact snd_pick H r hc he
  case alloc T => exact snd_alloc H r hc he
  case box T x => exact snd_box H r hc he
  case build T ps => exact snd_build H r hc he
  case buildSlice T len ps => exact snd_buildSlice H r hc he
  case load T x => exact snd_load H r hc he
  case store T x y => exact snd_store H r hc he
  case nilCheck x => exact snd_nilCheck H r hc he
  case binOp op T x y T2 => exact snd_binOp H r hc he
  case unOp op T x => exact snd_unOp H r hc he
  case convert s d x => exact snd_convert H r hc he
  case makeFunc fn first caps => exact snd_makeFunc H r hc he
  case makeMap T q => exact snd_makeMap H r hc he
  case makeSlice T l c => exact snd_makeSlice H r hc he
  case slice T x lo hi mx => exact snd_slice H r hc he
  case fieldAddr T x k => exact snd_fieldAddr H r hc he
  case field T x k => exact snd_field H r hc he
  case indexAddr T x i => exact snd_indexAddr H r hc he
  case index T x i => exact snd_index H r hc he
  case extract x i => exact snd_extract H r hc he
  case lookup T m k ok => exact snd_lookup H r hc he
  case mapUpdate T m k x => exact snd_mapUpdate H r hc he
  case call c => exact snd_call H r hc he
  case range T x => exact snd_range H r hc he
  case next x q => exact snd_next H r hc he
  case entry x => exact snd_entry H r hc he
  all_goals simp [compOp] at hc
end Go.Proofs.YtjpjeilfmjdhcaaDoor.E
/- The layer E, part 18: a function's code with all looked up ahead; what it must bring ('wpC'), and that this is so of the code. No condition. -/
namespace Go.Proofs.YtjpjeilfmjdhcaaDoor.E
set_option linter.unusedSimpArgs false
set_option linter.unusedVariables false
/-! ### Calls, by what they bring -/
def ARep (L:Loc) (w:World) (vs:List V) (xs:Array Value):Prop := xs.size = vs.length ∧ ∀ k v,vs[k]? = some v → Rep L w v (xs.getD k undef)
/-- What a call of 'f' with these arguments and this memory brings: it returns, and so that 'R'. -/
def CE (P:Program) (f:FuncId) (args:List V) (h:List Ob) (R:V → List Ob → Prop):Prop :=
  ∀ L w xs,ARep L w args xs → HRel L h w → Calls P f xs w fun e w' => ∃ x v h' L',e = .returned x ∧ R v h' ∧ Rep L' w' v x ∧ HRel L' h' w' ∧ Fr (Own L) w w' ∧ Ext L w L'
theorem CE.mono {P:Program} {f:FuncId} {args:List V} {h:List Ob} {R R':V → List Ob → Prop} (c:CE P f args h R) (hr:∀ v h',R v h' → R' v h'):CE P f args h R' :=
  fun L w xs a H => (c L w xs a H).mono fun e w' ⟨x,v,h',L',h1,h2,rest⟩ => ⟨x,v,h',L',h1,hr _ _ h2,rest⟩
def entersB (P:Program) (f:FuncId):Bool := match P.funcs[f]? with
  | some fn => fn.name != "runtime.NumGoroutine" && fn.body.isSome
  | none => false
theorem run_callFunc_enters {P:Program} {f:FuncId} (h:entersB P f = true) (args:Array Value) (w:World):(callFunc f args).run P w = .ok (.enter f args) w := by
  unfold entersB at h
  split at h
  · rename_i fn hfn
    simp only [Bool.and_eq_true,bne_iff_ne,ne_eq,Option.isSome_iff_ne_none] at h
    cases hb:fn.body with
    | none => exact absurd hb h.2
    | some c => simp [callFunc,hfn,h.1,hb]
  · cases h
/-! ### Code -/
inductive EA where
  | op (o:EOp)
  | call (f:FuncId) (args:List EO)
  | callv (fv:EO) (args:List EO)
  | nextM (x:EO)
  | bad
  deriving Inhabited,Repr
/-- An operation. -/
structure EG where
  dst:Option Nat
  guard:Option (Nat × Bool)
  act:EA
  deriving Inhabited,Repr
/-- An operation; 're': what read memory ahead of it, in whatever order, and must find there the same behind it. -/
structure EI where
  dst:Option Nat
  guard:Option (Nat × Bool)
  act:EA
  re:List EG
  deriving Inhabited,Repr
inductive EX where
  | normal
  | exit (id:Nat)
  | ret
  deriving DecidableEq,Repr,Inhabited
def EX.up:EX → Exit
  | .normal => .normal
  | .exit id => .exit id
  | .ret => .ret
inductive EC where
  | skip
  | reg (l:List EI)
  | draw (ls:List (List EI))
  | seq (x y:EC)
  | cond (c:EO) (x y:EC)
  | block (id:Nat) (x:EC)
  | loop (x:EC)
  | exit (id:Nat)
  | ret
  deriving Inhabited,Repr
abbrev Post := EX → (Nat → V) → List Ob → Prop
def putT (t:Nat → V) (dst:Option Nat) (v:V):Nat → V := match dst with
  | some d => upd t d v
  | none => t
def ifSome (o:Option (V × List Ob)) (k:V → List Ob → Prop):Prop := match o with
  | some (v,h) => k v h
  | none => False
@[simp] theorem ifSome_some (v:V) (h:List Ob) (k:V → List Ob → Prop):ifSome (some (v,h)) k = k v h := rfl
/-- Is the operation wanted. -/
def wantE (t:Nat → V):Option (Nat × Bool) → Option Bool
  | none => some true
  | some (s,q) => match t s with
    | .bool b => some (b == q)
    | .tup [] => some false
    | _ => none
def wpA (P:Program) (x:EA) (t:Nat → V) (h:List Ob) (k:V → List Ob → Prop):Prop := match x with
  | .op o => ifSome (evOp o t h) k
  | .call f args => CE P f (args.map (·.get t)) h k
  | .callv fv args => match fv.get t with
    | .fn f caps => entersB P f = true ∧ CE P f (args.map (·.get t) ++ caps) h k
    | .bm f caps => entersB P f = true ∧ CE P f (caps ++ args.map (·.get t)) h k
    | _ => False
  | .nextM x => match evNextM h (x.get t) with
    | some outs => ∀ p,p ∈ outs → k p.1 p.2
    | none => False
  | .bad => False
/-- What an operation that only looks comes to. -/
def evG (g:EG) (t:Nat → V) (h:List Ob):Option V := match wantE t g.guard with
  | some true => match g.act with
    | .op o => (evOp o t h).map (·.1)
    | _ => none
  | some false => some (.tup [])
  | none => none
def reck (g:EG) (t:Nat → V) (h:List Ob):Prop := match g.dst with
  | some d => evG g t h = some (t d)
  | none => False
def andRe (gs:List EG) (t:Nat → V) (h:List Ob) (K:Prop):Prop := match gs with
  | [] => K
  | g :: gs => reck g t h ∧ andRe gs t h K
def wpI (P:Program) (Q:Post):List EI → (Nat → V) → List Ob → Prop
  | [],t,h => Q .normal t h
  | i :: rest,t,h => match wantE t i.guard with
    | some true => wpA P i.act t h fun v h' => andRe i.re (putT t i.dst v) h' (wpI P Q rest (putT t i.dst v) h')
    | some false => andRe i.re (putT t i.dst (.tup [])) h (wpI P Q rest (putT t i.dst (.tup [])) h)
    | none => False
def thenQ (next:(Nat → V) → List Ob → Prop) (Q:Post):Post
  | .normal,t,h => next t h
  | e,t,h => Q e t h
def blockQ (id:Nat) (Q:Post):Post
  | .exit j,t,h => if j = id then Q .normal t h else Q (.exit j) t h
  | e,t,h => Q e t h
def wpC (P:Program):EC → Post → (Nat → V) → List Ob → Prop
  | .skip,Q,t,h => Q .normal t h
  | .reg l,Q,t,h => wpI P Q l t h
  | .draw ls,Q,t,h => ∀ l,l ∈ ls → wpI P Q l t h
  | .seq x y,Q,t,h => wpC P x (thenQ (fun t h => wpC P y Q t h) Q) t h
  | .cond c x y,Q,t,h => match c.get t with
    | .bool true => wpC P x Q t h
    | .bool false => wpC P y Q t h
    | _ => False
  | .block id x,Q,t,h => wpC P x (blockQ id Q) t h
  | .loop x,Q,t,h => ∃ I:Nat → (Nat → V) → List Ob → Prop,(∃ m,I m t h) ∧ ∀ m t h,I m t h → wpC P x (thenQ (fun t' h' => ∃ m',m' < m ∧ I m' t' h') Q) t h
  | .exit id,Q,t,h => Q (.exit id) t h
  | .ret,Q,t,h => Q .ret t h
/-! ### From the program's code -/
/-- What has no body and is known. -/
def xkOf (P:Program) (f:FuncId):Nat := match P.funcs[f]? with
  | some fn => if fn.body.isNone && fn.origin == "" then
      (if fn.name = "internal/bytealg.Compare" then 1 else if fn.name = "internal/bytealg.IndexByteString" ∨ fn.name = "internal/bytealg.IndexByte" then 2 else if fn.name = "internal/bytealg.Count" ∨ fn.name = "internal/bytealg.CountString" then 3 else 0) else 0
  | none => 0
def compX (n:Nat) (k:Nat) (xs:List Operand):Option EA := match k,xs with
  | 1,[x,y] => match cOpd n x,cOpd n y with
    | some x,some y => some (.op (.cmpB x y))
    | _,_ => none
  | 2,[x,y] => match cOpd n x,cOpd n y with
    | some x,some y => some (.op (.idxB x y))
    | _,_ => none
  | 3,[x,y] => match cOpd n x,cOpd n y with
    | some x,some y => some (.op (.cntB x y))
    | _,_ => none
  | _,_ => none
def compAct (P:Program) (n:Nat) (o:Op):Option EA := match o with
  | .call { callee := .value (.func f),args,argTypes := _ } => if entersB P f then (mapAll (cOpd n) args.toList).map (.call f) else compX n (xkOf P f) args.toList
  | .call { callee := .value (.tmp i),args,argTypes := _ } => if i < n then (mapAll (cOpd n) args.toList).map (.callv (.t i)) else none
  | .next x false => (cOpd n x).map .nextM
  | o => (compOp P n o).map .op
def compGuard (n:Nat) (ops:Array Oper):Option (Nat × Bool) → Option (Option (Nat × Bool))
  | none => some none
  | some (j,q) => match (ops[j]?).bind (·.dst) with
    | some s => if s < n then some (some (s,q)) else none
    | none => none
def compActB (P:Program) (n:Nat) (o:Op):EA := (compAct P n o).getD .bad
def compG (P:Program) (n:Nat) (ops:Array Oper) (o:Oper):Option EG := (compGuard n ops o.guard).map fun g => ⟨o.dst,g,compActB P n o.op⟩
def compI (P:Program) (n:Nat) (ops:Array Oper):List Nat → Option (List EI)
  | [] => some []
  | i :: rest => match ops[i]? with
    | none => none
    | some o => match compG P n ops o,compI P n ops rest with
      | some g,some l => some (⟨g.dst,g.guard,g.act,[]⟩ :: l)
      | _,_ => none
/-- All the orders that a drawn one may be. -/
def allGo (m:Region.Mode) (ops:Array Oper):Nat → Array Bool → List Nat → List (List Nat)
  | 0,_,acc => [acc.reverse]
  | fuel + 1,listed,acc =>
    let rs := (List.range ops.size).filter fun i =>
      !listed.getD i true && ((ops[i]?).map (·.after.all fun e => !Region.binds m e || listed.getD e.on false)).getD false
    if rs.isEmpty then [acc.reverse] else rs.flatMap fun i => allGo m ops fuel (listed.setIfInBounds i true) (i :: acc)
theorem linearise_mem (m:Region.Mode) (ops:Array Oper):∀ (fuel t:Nat) (listed:Array Bool) (acc:List Nat),Region.linearise.go m ops fuel t listed acc ∈ allGo m ops fuel listed acc
  | 0,t,listed,acc => by simp [Region.linearise.go,allGo]
  | fuel + 1,t,listed,acc => by
    simp only [Region.linearise.go,allGo]
    generalize hrs:((List.range ops.size).filter fun i => !listed.getD i true && ((ops[i]?).map (·.after.all fun e => !Region.binds m e || listed.getD e.on false)).getD false) = rs
    cases rs with
    | nil => simp
    | cons r rs =>
      have hl:t % (r :: rs).length < (r :: rs).length := Nat.mod_lt _ (by simp)
      simp only [List.isEmpty_cons,Bool.false_eq_true,if_false,List.getElem?_eq_getElem hl]
      exact List.mem_flatMap.2 ⟨_,List.getElem_mem hl,linearise_mem m ops fuel _ _ _⟩
def ordersOf (P:Program) (ops:Array Oper):List (List Nat) :=
  let z := Array.replicate ops.size false
  if P.follows .mixedOrders || !Region.departs ops then allGo .any ops ops.size z []
  else allGo .text ops ops.size z [] ++ allGo .gc ops ops.size z []
theorem schedule_mem (P:Program) (ops:Array Oper) (t:Nat):Region.schedule (P.follows .mixedOrders) ops t ∈ ordersOf P ops := by
  unfold Region.schedule ordersOf
  split
  · rename_i hq
    simp only [hq,if_true]
    exact linearise_mem _ _ _ _ _ _
  · rename_i hq
    simp only [hq]
    refine List.mem_append.2 ?_
    split
    · exact .inl (linearise_mem _ _ _ _ _ _)
    · exact .inr (linearise_mem _ _ _ _ _ _)
/-! ### It is so of the code -/
def up (n:Nat) (Q:Post) (L:Loc) (w:World):Exit → Act → World → Prop := fun e a' w' =>
  ∃ x t' h' L',e = x.up ∧ Q x t' h' ∧ TRel L' w' n t' a'.tmps ∧ a'.defers = [] ∧ HRel L' h' w' ∧ Fr (Own L) w w' ∧ Ext L w L'
theorem up_trans {n:Nat} {Q:Post} {L L₁ : Loc} {w w₁ : World} (fr:Fr (Own L) w w₁) (ex:Ext L w L₁) {e:Exit} {a:Act} {w':World} (u:up n Q L₁ w₁ e a w'):up n Q L w e a w' := by
  obtain ⟨x,t',h',L',h1,h2,h3,h4,h5,h6,h7⟩ := u
  exact ⟨x,t',h',L',h1,h2,h3,h4,h5,fr.trans ex h6,ex.trans h7 fr.size⟩
theorem arep_of {L:Loc} {w:World} {n:Nat} {t:Nat → V} {a:Act} (r:TRel L w n t a.tmps) {xs:Array Operand} {ys:List EO} (h:mapAll (cOpd n) xs.toList = some ys):ARep L w (ys.map (·.get t)) (xs.map a.eval) := by
  obtain ⟨g1,g2⟩ := caps_spec r h
  have:xs.toList.toArray.map a.eval = xs.map a.eval := by simp
  rw [this] at g1 g2
  exact ⟨g1,g2⟩
theorem ARep.append {L:Loc} {w:World} {us vs:List V} {xs ys:Array Value} (hx:ARep L w us xs) (hy:ARep L w vs ys):ARep L w (us ++ vs) (xs ++ ys) := by
  refine ⟨by simp [hx.1,hy.1],fun k v hk => ?_⟩
  rw [Array.getD_eq_getD_getElem?,Array.getElem?_append]
  rw [List.getElem?_append] at hk
  rw [hx.1]
  split at hk
  · rename_i q; rw [if_pos q,← Array.getD_eq_getD_getElem?]; exact hx.2 k v hk
  · rename_i q; rw [if_neg q,← Array.getD_eq_getD_getElem?]; exact hy.2 _ v hk
theorem put_tmps (a:Act) (dst:Option Tmp) (v:Value):(a.put dst v).defers = a.defers := by cases dst <;> rfl
theorem TRel.put {L:Loc} {w:World} {n:Nat} {t:Nat → V} {a:Act} (r:TRel L w n t a.tmps) {dst:Option Nat} {v:V} {x:Value} (hv:Rep L w v x):TRel L w n (putT t dst v) (a.put dst x).tmps := by
  cases dst with
  | none => exact r
  | some d => exact TRel.upd r hv
theorem want_spec {L:Loc} {w:World} {n:Nat} {t:Nat → V} {a:Act} (r:TRel L w n t a.tmps) {ops:Array Oper} {o:Oper} {g:Option (Nat × Bool)} (hg:compGuard n ops o.guard = some g) {b:Bool} (hw:wantE t g = some b) :
    Region.wanted o (yielded ops a.tmps) = b := by
  unfold compGuard at hg
  unfold Region.wanted
  split at hg
  · injection hg with hg; subst hg
    simp only [wantE,Option.some.injEq] at hw
    subst hw
    rename_i hq
    rw [hq]
  · rename_i j q hq
    rw [hq]
    split at hg
    · rename_i s hs
      split at hg
      · rename_i hsn
        injection hg with hg; subst hg
        have rs := r.2 s hsn
        have hsz:s < a.tmps.size := by rw [r.1]; exact hsn
        have hy:yielded ops a.tmps j = match a.tmps.getD s undef with | .bool b => some b | _ => none := by
          unfold yielded
          rw [hs]
          simp only [Option.bind_some,Array.getElem?_eq_getElem hsz]
          have:a.tmps.getD s undef = a.tmps[s] := by simp [Array.getD,hsz]
          rw [this]
          cases a.tmps[s] <;> rfl
        simp only [hy]
        simp only [wantE] at hw
        split at hw
        · rename_i b' hb
          injection hw with hw; subst hw
          rw [hb] at rs
          generalize a.tmps.getD s undef = z at rs
          cases rs
          cases b' <;> cases q <;> rfl
        · rename_i hb
          injection hw with hw; subst hw
          rw [hb] at rs
          generalize a.tmps.getD s undef = z at rs
          cases rs with
          | tup vs h1 h2 => cases q <;> rfl
        · cases hw
      · cases hg
    · cases hg
theorem find_cmp {fn : Func} (h1 : fn.name = "internal/bytealg.Compare") (h2 : fn.origin = "") : Extern.find fn = some Extern.BytealgCompare.compare ∧ Extern.findNext fn = none := by
  unfold Extern.find Extern.findNext
  simp only [h1,h2]
  have a1 : Extern.allGenericRows.lookup "internal/bytealg.Compare" = none := by kernel_rfl
  have a2 : Extern.allTypedRows.lookup "internal/bytealg.Compare" = none := by kernel_rfl
  have a3 : Extern.allRows.lookup "internal/bytealg.Compare" = some Extern.BytealgCompare.compare := by kernel_rfl
  have a4 : Extern.allNextRows.lookup "internal/bytealg.Compare" = none := by kernel_rfl
  have a5 : Extern.allNextRows.lookup "" = none := by kernel_rfl
  rw [a1,a2,a3,a4,a5]
  exact ⟨rfl,rfl⟩
theorem find_idx {fn : Func} (h1 : fn.name = "internal/bytealg.IndexByteString" ∨ fn.name = "internal/bytealg.IndexByte") (h2 : fn.origin = "") : Extern.find fn = some Extern.BytealgIndexByte.indexByte ∧ Extern.findNext fn = none := by
  have a5 : Extern.allNextRows.lookup "" = none := by kernel_rfl
  rcases h1 with h1 | h1
  · have a1 : Extern.allGenericRows.lookup "internal/bytealg.IndexByteString" = none := by kernel_rfl
    have a2 : Extern.allTypedRows.lookup "internal/bytealg.IndexByteString" = none := by kernel_rfl
    have a3 : Extern.allRows.lookup "internal/bytealg.IndexByteString" = some Extern.BytealgIndexByte.indexByte := by kernel_rfl
    have a4 : Extern.allNextRows.lookup "internal/bytealg.IndexByteString" = none := by kernel_rfl
    unfold Extern.find Extern.findNext
    simp only [h1,h2]
    rw [a1,a2,a3,a4,a5]
    exact ⟨rfl,rfl⟩
  · have a1 : Extern.allGenericRows.lookup "internal/bytealg.IndexByte" = none := by kernel_rfl
    have a2 : Extern.allTypedRows.lookup "internal/bytealg.IndexByte" = none := by kernel_rfl
    have a3 : Extern.allRows.lookup "internal/bytealg.IndexByte" = some Extern.BytealgIndexByte.indexByte := by kernel_rfl
    have a4 : Extern.allNextRows.lookup "internal/bytealg.IndexByte" = none := by kernel_rfl
    unfold Extern.find Extern.findNext
    simp only [h1,h2]
    rw [a1,a2,a3,a4,a5]
    exact ⟨rfl,rfl⟩
theorem find_cnt {fn : Func} (h1 : fn.name = "internal/bytealg.Count" ∨ fn.name = "internal/bytealg.CountString") (h2 : fn.origin = "") : Extern.find fn = some Extern.BytealgCount.count ∧ Extern.findNext fn = none := by
  have a5 : Extern.allNextRows.lookup "" = none := by kernel_rfl
  rcases h1 with h1 | h1
  · have a1 : Extern.allGenericRows.lookup "internal/bytealg.Count" = none := by kernel_rfl
    have a2 : Extern.allTypedRows.lookup "internal/bytealg.Count" = none := by kernel_rfl
    have a3 : Extern.allRows.lookup "internal/bytealg.Count" = some Extern.BytealgCount.count := by kernel_rfl
    have a4 : Extern.allNextRows.lookup "internal/bytealg.Count" = none := by kernel_rfl
    unfold Extern.find Extern.findNext
    simp only [h1,h2]
    rw [a1,a2,a3,a4,a5]
    exact ⟨rfl,rfl⟩
  · have a1 : Extern.allGenericRows.lookup "internal/bytealg.CountString" = none := by kernel_rfl
    have a2 : Extern.allTypedRows.lookup "internal/bytealg.CountString" = none := by kernel_rfl
    have a3 : Extern.allRows.lookup "internal/bytealg.CountString" = some Extern.BytealgCount.count := by kernel_rfl
    have a4 : Extern.allNextRows.lookup "internal/bytealg.CountString" = none := by kernel_rfl
    unfold Extern.find Extern.findNext
    simp only [h1,h2]
    rw [a1,a2,a3,a4,a5]
    exact ⟨rfl,rfl⟩
theorem xk_run {P:Program} {f:FuncId} {args:Array Value} {w:World}:(xkOf P f = 1 → (callFunc f args).run P w = ((Extern.BytealgCompare.compare args).run P w).andThen fun v w' => .ok (.value v) w') ∧
    (xkOf P f = 2 → (callFunc f args).run P w = ((Extern.BytealgIndexByte.indexByte args).run P w).andThen fun v w' => .ok (.value v) w') ∧
    (xkOf P f = 3 → (callFunc f args).run P w = ((Extern.BytealgCount.count args).run P w).andThen fun v w' => .ok (.value v) w') := by
  unfold xkOf
  cases hf:P.funcs[f]? with
  | none => simp
  | some fn =>
    simp only
    split
    · rename_i hb
      simp only [Bool.and_eq_true,beq_iff_eq] at hb
      split
      · rename_i hn
        obtain ⟨g1,g2⟩ := find_cmp hn hb.2
        exact ⟨fun _ => run_callFunc_extern hf (by rw [hn]; rfl) hb.1 g2 g1 args w,fun q => by simp at q,fun q => by simp at q⟩
      · split
        · rename_i hn
          obtain ⟨g1,g2⟩ := find_idx hn hb.2
          exact ⟨fun q => by simp at q,fun _ => run_callFunc_extern hf (by rcases hn with hn | hn <;> rw [hn] <;> rfl) hb.1 g2 g1 args w,fun q => by simp at q⟩
        · split
          · rename_i hn
            obtain ⟨g1,g2⟩ := find_cnt hn hb.2
            exact ⟨fun q => by simp at q,fun q => by simp at q,fun _ => run_callFunc_extern hf (by rcases hn with hn | hn <;> rw [hn] <;> rfl) hb.1 g2 g1 args w⟩
          · exact ⟨fun q => by simp at q,fun q => by simp at q,fun q => by simp at q⟩
    · exact ⟨fun q => by simp at q,fun q => by simp at q,fun q => by simp at q⟩
theorem compX_run {P:Program} {L:Loc} {h:List Ob} {w:World} (H:HRel L h w) {n:Nat} {t:Nat → V} {a:Act} (r:TRel L w n t a.tmps) {f:FuncId} {xs:List Operand} {x:EA} (hc:compX n (xkOf P f) xs = some x) :
    ∃ eo,x = .op eo ∧ ∀ v h',evOp eo t h = some (v,h') → ∃ y,(callFunc f (xs.map a.eval).toArray).run P w = .ok (.value y) w ∧ Rep L w v y ∧ h' = h := by
  unfold compX at hc
  split at hc
  · rename_i x y hk
    split at hc
    · rename_i x' y' h1 h2
      injection hc with hc; subst hc
      refine ⟨_,rfl,fun v h' he => ?_⟩
      simp only [evOp] at he
      split at he
      · rename_i l m q1 q2
        injection he with he; injection he with e1 e2; subst e1; subst e2
        refine ⟨_,?_,.int _ _,rfl⟩
        rw [xk_run.1 hk]
        have := cmpB_run (P := P) H (cOpd_rep r h1) (cOpd_rep r h2) q1 q2
        simp only [List.map_cons,List.map_nil]
        rw [this]; rfl
      · cases he
    · cases hc
  · rename_i x y hk
    split at hc
    · rename_i x' y' h1 h2
      injection hc with hc; subst hc
      refine ⟨_,rfl,fun v h' he => ?_⟩
      simp only [evOp] at he
      split at he
      · rename_i l c q1 q2
        injection he with he; injection he with e1 e2; subst e1; subst e2
        refine ⟨_,?_,.int _ _,rfl⟩
        rw [xk_run.2.1 hk]
        have r2 := cOpd_rep r h2
        rw [q2] at r2
        have e2 := r2.int_inv
        have := idxB_run (P := P) (c := c) H (cOpd_rep r h1) q1
        simp only [List.map_cons,List.map_nil]
        rw [e2,this]; rfl
      · cases he
    · cases hc
  · rename_i x y hk
    split at hc
    · rename_i x' y' h1 h2
      injection hc with hc; subst hc
      refine ⟨_,rfl,fun v h' he => ?_⟩
      simp only [evOp] at he
      split at he
      · rename_i l c q1 q2
        injection he with he; injection he with e1 e2; subst e1; subst e2
        refine ⟨_,?_,.int _ _,rfl⟩
        rw [xk_run.2.2 hk]
        have r2 := cOpd_rep r h2
        rw [q2] at r2
        have e2 := r2.int_inv
        have := cntB_run (P := P) (c := c) H (cOpd_rep r h1) q1
        simp only [List.map_cons,List.map_nil]
        rw [e2,this]; rfl
      · cases he
    · cases hc
  · cases hc
theorem wpI_sound {P:Program} {n:Nat} {Q:Post} {ops:Array Oper}:∀ (is:List Nat) (l:List EI),compI P n ops is = some l → ∀ (t:Nat → V) (h:List Ob),wpI P Q l t h →
    ∀ L w a,TRel L w n t a.tmps → a.defers = [] → HRel L h w → ∀ Qf:Exit → Act → World → Prop,(∀ e a' w',up n Q L w e a' w' → Qf e a' w') → wpOps P ops Qf is a w
  | [],l,hc,t,h,hq,L,w,a,r,hd,H,Qf,hQf => by
    simp [compI] at hc; subst hc
    exact hQf _ _ _ ⟨.normal,t,h,L,rfl,hq,r,hd,H,Fr.refl _ _,Ext.refl _ _⟩
  | i :: is,l,hc,t,h,hq,L,w,a,r,hd,H,Qf,hQf => by
    simp only [compI] at hc
    split at hc
    · cases hc
    · rename_i o ho
      split at hc
      · rename_i eg l' hG hl
        injection hc with hc; subst hc
        simp only [compG,Option.map_eq_some_iff] at hG
        obtain ⟨g,hg,rfl⟩ := hG
        simp only [wpOps,ho]
        simp only [wpI,andRe] at hq
        have next:∀ {v:V} {h':List Ob} {x:Value} {w':World} {L':Loc},wpI P Q l' (putT t o.dst v) h' → Rep L' w' v x → HRel L' h' w' → Fr (Own L) w w' → Ext L w L' →
            wpOps P ops Qf is (a.put o.dst x) w' := by
          intro v h' x w' L' hk hr hH hf he
          exact wpI_sound is l' hl _ h' hk L' w' (a.put o.dst x) (TRel.put (r.step H hf he) hr) (by rw [put_tmps]; exact hd) hH Qf (fun e a' w'' u => hQf _ _ _ (up_trans hf he u))
        split at hq
        · rename_i hw
          rw [if_pos (want_spec r hg hw)]
          refine .inl ?_
          unfold Oper.wp
          obtain ⟨dst,op,ty,pos,after,guard⟩ := o
          simp only [compActB] at hq
          cases hx:compAct P n op with
          | none => rw [hx] at hq; exact hq.elim
          | some x =>
          rw [hx] at hq
          simp only [Option.getD_some] at hq
          unfold compAct at hx
          split at hx
          · rename_i f args ats
            split at hx
            · rename_i hen
              simp only [Option.map_eq_some_iff] at hx
              obtain ⟨ys,h1,rfl⟩ := hx
              simp only [wpA] at hq
              rw [execOp_call_go,run_callFunc_enters hen,Oper.upon_enter]
              refine (hq L w _ ?_ H).mono ?_
              · have := arep_of r h1
                simpa using this
              · rintro e w' ⟨x,v,h',L',rfl,hk,hr,hH,hf,he⟩
                exact next hk hr hH hf he
            · obtain ⟨eo,rfl,g⟩ := compX_run H r hx
              simp only [wpA,ifSome] at hq
              split at hq
              · rename_i v h' he
                obtain ⟨y,hrun,hr,rfl⟩ := g v h' he
                rw [execOp_call_go]
                have:args.toList.map a.eval = (args.map a.eval).toList := by simp
                rw [this] at hrun
                simp only [Array.toArray_toList] at hrun
                have h0:(#[] ++ Array.map a.eval args ++ #[]:Array Value) = Array.map a.eval args := by simp
                rw [h0,hrun,Oper.upon_value]
                exact next hq hr H (Fr.refl _ _) (Ext.refl _ _)
              · exact hq.elim
          · rename_i k args ats
            split at hx
            · rename_i hkn
              simp only [Option.map_eq_some_iff] at hx
              obtain ⟨ys,h1,rfl⟩ := hx
              simp only [wpA] at hq
              have rk := r.2 k hkn
              simp only [EO.get_t] at hq
              split at hq
              · rename_i f caps hf
                obtain ⟨hen,hq⟩ := hq
                rw [hf] at rk
                have hev:a.eval (.tmp k) = a.tmps.getD k undef := rfl
                generalize hz:a.tmps.getD k undef = z at rk hev
                cases rk with
                | fn vs g1 g2 =>
                  have hrun:(execOp a.eval { dst := dst,op := .call { callee := .value (.tmp k),args := args,argTypes := ats },type := ty,pos := pos,after := after,guard := guard }).run P w = .ok (.enter f (args.map a.eval ++ vs)) w := by
                    have:execOp a.eval { dst := dst,op := .call { callee := .value (.tmp k),args := args,argTypes := ats },type := ty,pos := pos,after := after,guard := guard } =
                        (do let d ← Deferred.ofValue (a.eval (.tmp k)) (args.map a.eval); invoke d.target d.args) := rfl
                    rw [this,hev]
                    simp only [Deferred.ofValue,Sem.run_bind,Sem.run_pure,Result.andThen_ok,invoke]
                    rw [run_callFunc_enters hen]
                    simp
                  rw [hrun,Oper.upon_enter]
                  refine (hq L w _ ?_ H).mono ?_
                  · exact (arep_of r h1).append ⟨g1,g2⟩
                  · rintro e w' ⟨x,v,h',L',rfl,hk,hr,hH,hf,he⟩
                    exact next hk hr hH hf he
              · rename_i f caps hf
                obtain ⟨hen,hq⟩ := hq
                rw [hf] at rk
                have hev:a.eval (.tmp k) = a.tmps.getD k undef := rfl
                generalize hz:a.tmps.getD k undef = z at rk hev
                cases rk with
                | bm vs g1 g2 =>
                  have hrun:(execOp a.eval { dst := dst,op := .call { callee := .value (.tmp k),args := args,argTypes := ats },type := ty,pos := pos,after := after,guard := guard }).run P w = .ok (.enter f (vs ++ args.map a.eval)) w := by
                    have:execOp a.eval { dst := dst,op := .call { callee := .value (.tmp k),args := args,argTypes := ats },type := ty,pos := pos,after := after,guard := guard } =
                        (do let d ← Deferred.ofValue (a.eval (.tmp k)) (args.map a.eval); invoke d.target d.args) := rfl
                    rw [this,hev]
                    simp only [Deferred.ofValue,Sem.run_bind,Sem.run_pure,Result.andThen_ok,invoke]
                    rw [run_callFunc_enters hen]
                    simp
                  rw [hrun,Oper.upon_enter]
                  refine (hq L w _ ?_ H).mono ?_
                  · exact ARep.append ⟨g1,g2⟩ (arep_of r h1)
                  · rintro e w' ⟨x,v,h',L',rfl,hk,hr,hH,hf,he⟩
                    exact next hk hr hH hf he
              · exact hq.elim
            · cases hx
          · rename_i x0
            simp only [Option.map_eq_some_iff] at hx
            obtain ⟨e,h1,rfl⟩ := hx
            simp only [wpA] at hq
            split at hq
            · rename_i outs he
              obtain ⟨p,hp,z,w',L',g1,g2,g3,g4,g5⟩ := nextM_good (P := P) (ty := ty) H (cOpd_rep r h1) he
              have hrun:(execOp a.eval ⟨dst,.next x0 false,ty,pos,after,guard⟩).run P w = .ok (.value z) w' := by
                have:execOp a.eval ⟨dst,.next x0 false,ty,pos,after,guard⟩ = (do pure (.value (← Instr.next (a.eval x0) false ty))) := rfl
                rw [this]
                simp [g1]
              rw [hrun,Oper.upon_value]
              exact next (hq p hp) g2 g3 g4 g5
            · exact hq.elim
          · simp only [Option.map_eq_some_iff] at hx
            obtain ⟨eo,h1,rfl⟩ := hx
            simp only [wpA,ifSome] at hq
            split at hq
            · rename_i v h' he
              obtain ⟨x,w',L',hrun,hr,hH,hf,hex⟩ := evOp_sound H r (o := ⟨dst,op,ty,pos,after,guard⟩) h1 he
              rcases hrun with hrun | ⟨hrun,rfl⟩
              · rw [hrun,Oper.upon_value]; exact next hq hr hH hf hex
              · rw [hrun,Oper.upon_skip]; exact next hq hr hH hf hex
            · exact hq.elim
        · rename_i hw
          rw [if_neg (by rw [want_spec r hg hw]; simp)]
          exact next hq undef_rep H (Fr.refl _ _) (Ext.refl _ _)
        · exact hq.elim
      · cases hc
end Go.Proofs.YtjpjeilfmjdhcaaDoor.E
/- The layer E, part 19: a region whose order is drawn comes to what one order of it brings, where what looks is not disturbed. No condition. -/
namespace Go.Proofs.YtjpjeilfmjdhcaaDoor.E
set_option linter.unusedSimpArgs false
set_option linter.unusedVariables false
def Agree (t t':Nat → V) (l:List Nat):Prop := ∀ s,s ∈ l → t s = t' s
theorem agree_append {t t':Nat → V} {a b:List Nat}:Agree t t' (a ++ b) ↔ Agree t t' a ∧ Agree t t' b :=
  ⟨fun h => ⟨fun s hs => h s (List.mem_append.2 (.inl hs)),fun s hs => h s (List.mem_append.2 (.inr hs))⟩,fun h s hs => (List.mem_append.1 hs).elim (h.1 s) (h.2 s)⟩
def EO.rd:EO → List Nat
  | .t i => [i]
  | .c _ => []
def rdL:List EO → List Nat
  | [] => []
  | x :: xs => x.rd ++ rdL xs
def rdO:Option EO → List Nat
  | none => []
  | some x => x.rd
theorem EO.get_congr {t t':Nat → V} {x:EO} (h:Agree t t' x.rd):x.get t = x.get t' := by
  cases x with
  | t i => exact h i (by simp [EO.rd])
  | c v => rfl
theorem rdL_congr {t t':Nat → V}:∀ {xs:List EO},Agree t t' (rdL xs) → xs.map (·.get t) = xs.map (·.get t')
  | [],_ => rfl
  | x :: xs,h => by
    obtain ⟨h1,h2⟩ := agree_append.1 h
    simp only [List.map_cons]
    rw [EO.get_congr h1,rdL_congr h2]
theorem rdO_congr {t t':Nat → V} {x:Option EO} (h:Agree t t' (rdO x)):x.map (·.get t) = x.map (·.get t') := by
  cases x with
  | none => rfl
  | some x => simp only [Option.map_some]; rw [EO.get_congr h]
theorem parts3_congr {t t':Nat → V}:∀ {xs:List (Nat × Nat × EO)},Agree t t' (rdL (xs.map (·.2.2))) → xs.map (fun p => (p.1,p.2.1,p.2.2.get t)) = xs.map (fun p => (p.1,p.2.1,p.2.2.get t'))
  | [],_ => rfl
  | x :: xs,h => by
    obtain ⟨h1,h2⟩ := agree_append.1 h
    simp only [List.map_cons]
    rw [EO.get_congr h1,parts3_congr h2]
theorem parts2_congr {t t':Nat → V}:∀ {xs:List (Nat × EO)},Agree t t' (rdL (xs.map (·.2))) → xs.map (fun p => (p.1,p.2.get t)) = xs.map (fun p => (p.1,p.2.get t'))
  | [],_ => rfl
  | x :: xs,h => by
    obtain ⟨h1,h2⟩ := agree_append.1 h
    simp only [List.map_cons]
    rw [EO.get_congr h1,parts2_congr h2]
def EOp.rd:EOp → List Nat
  | .mv x => x.rd
  | .pick c a b => c.rd ++ (a.rd ++ b.rd)
  | .alloc _ _ => []
  | .box _ x => x.rd
  | .build _ ps => rdL (ps.map (·.2.2))
  | .bslice _ _ _ ps => rdL (ps.map (·.2))
  | .load1 a => a.rd
  | .loadN _ a => a.rd
  | .store _ a x => a.rd ++ x.rd
  | .nilck x => x.rd
  | .bin _ x y => x.rd ++ y.rd
  | .eq _ _ x y => x.rd ++ y.rd
  | .un _ x => x.rd
  | .toInt _ x => x.rd
  | .strId x => x.rd
  | .toStr x => x.rd
  | .toBytes x => x.rd
  | .mkfn _ cs => rdL cs
  | .mkslice _ _ l c => l.rd ++ c.rd
  | .slcS x lo hi => x.rd ++ (rdO lo ++ rdO hi)
  | .slcL _ x lo hi mx => x.rd ++ (rdO lo ++ (rdO hi ++ rdO mx))
  | .slcA _ _ x lo hi => x.rd ++ (rdO lo ++ rdO hi)
  | .faddr _ x => x.rd
  | .field1 _ x => x.rd
  | .fieldN _ _ x => x.rd
  | .iaddrA _ _ x i => x.rd ++ i.rd
  | .iaddrL _ x i => x.rd ++ i.rd
  | .idxS x i => x.rd ++ i.rd
  | .ext _ x => x.rd
  | .lenS x => x.rd
  | .lenL x => x.rd
  | .app _ _ x y => x.rd ++ y.rd
  | .copy _ x y => x.rd ++ y.rd
  | .minmax _ x y => x.rd ++ y.rd
  | .maxN x ys => x.rd ++ rdL ys
  | .mkbm _ cs => rdL cs
  | .mkmap => []
  | .lenM x => x.rd
  | .lookup _ _ _ m k => m.rd ++ k.rd
  | .mapupd _ m k v => m.rd ++ (k.rd ++ v.rd)
  | .delete _ m k => m.rd ++ k.rd
  | .appZ _ _ _ x n => x.rd ++ n.rd
  | .rangeS x => x.rd
  | .rangeM x => x.rd
  | .nextS x => x.rd
  | .idxA _ _ _ x i => x.rd ++ i.rd
  | .runeStr x => x.rd
  | .capL x => x.rd
  | .strish x => x.rd
  | .cmpB x y => x.rd ++ y.rd
  | .idxB x y => x.rd ++ y.rd
  | .cntB x y => x.rd ++ y.rd
  | .clearL _ _ x => x.rd
  | .entry x => x.rd
theorem evOp_congr {t t':Nat → V} {o:EOp} (g:Agree t t' o.rd) (h:List Ob):evOp o t h = evOp o t' h := by
  cases o <;> simp only [EOp.rd,agree_append] at g
  case mv x => simp only [evOp,EO.get_congr g]
  case pick c a b => simp only [evOp,EO.get_congr g.1,EO.get_congr g.2.1,EO.get_congr g.2.2]
  case alloc => rfl
  case box x => simp only [evOp,EO.get_congr g]
  case build z ps => simp only [evOp,parts3_congr g]
  case bslice sz z len ps => simp only [evOp,parts2_congr g]
  case load1 x => simp only [evOp,EO.get_congr g]
  case loadN n x => simp only [evOp,EO.get_congr g]
  case store n a x => simp only [evOp,EO.get_congr g.1,EO.get_congr g.2]
  case nilck x => simp only [evOp,EO.get_congr g]
  case bin op x y => simp only [evOp,EO.get_congr g.1,EO.get_congr g.2]
  case eq ng T x y => simp only [evOp,EO.get_congr g.1,EO.get_congr g.2]
  case un op x => simp only [evOp,EO.get_congr g]
  case toInt k x => simp only [evOp,EO.get_congr g]
  case strId x => simp only [evOp,EO.get_congr g]
  case toStr x => simp only [evOp,EO.get_congr g]
  case toBytes x => simp only [evOp,EO.get_congr g]
  case mkfn f cs => simp only [evOp,rdL_congr g]
  case mkslice z b l c => simp only [evOp,EO.get_congr g.1,EO.get_congr g.2]
  case slcS x lo hi => simp only [evOp,EO.get_congr g.1,rdO_congr g.2.1,rdO_congr g.2.2]
  case slcL sz x lo hi mx => simp only [evOp,EO.get_congr g.1,rdO_congr g.2.1,rdO_congr g.2.2.1,rdO_congr g.2.2.2]
  case slcA n sz x lo hi => simp only [evOp,EO.get_congr g.1,rdO_congr g.2.1,rdO_congr g.2.2]
  case faddr off x => simp only [evOp,EO.get_congr g]
  case field1 off x => simp only [evOp,EO.get_congr g]
  case fieldN off n x => simp only [evOp,EO.get_congr g]
  case iaddrA n sz x i => simp only [evOp,EO.get_congr g.1,EO.get_congr g.2]
  case iaddrL sz x i => simp only [evOp,EO.get_congr g.1,EO.get_congr g.2]
  case idxS x i => simp only [evOp,EO.get_congr g.1,EO.get_congr g.2]
  case ext i x => simp only [evOp,EO.get_congr g]
  case lenS x => simp only [evOp,EO.get_congr g]
  case lenL x => simp only [evOp,EO.get_congr g]
  case app sz b x y => simp only [evOp,EO.get_congr g.1,EO.get_congr g.2]
  case copy sz x y => simp only [evOp,EO.get_congr g.1,EO.get_congr g.2]
  case minmax mx x y => simp only [evOp,EO.get_congr g.1,EO.get_congr g.2]
  case maxN x ys => simp only [evOp,EO.get_congr g.1,rdL_congr g.2]
  case mkbm f cs => simp only [evOp,rdL_congr g]
  case mkmap => rfl
  case lenM x => simp only [evOp,EO.get_congr g]
  case lookup kt z ok m k => simp only [evOp,EO.get_congr g.1,EO.get_congr g.2]
  case mapupd kt m k v => simp only [evOp,EO.get_congr g.1,EO.get_congr g.2.1,EO.get_congr g.2.2]
  case delete kt m k => simp only [evOp,EO.get_congr g.1,EO.get_congr g.2]
  case capL x => simp only [evOp,EO.get_congr g]
  case appZ sz b z x n => simp only [evOp,EO.get_congr g.1,EO.get_congr g.2]
  case strish x => simp only [evOp,EO.get_congr g]
  case rangeS x => simp only [evOp,EO.get_congr g]
  case nextS x => simp only [evOp,EO.get_congr g]
  case rangeM x => simp only [evOp,EO.get_congr g]
  case entry x => simp only [evOp,EO.get_congr g]
  case cmpB x y => simp only [evOp,EO.get_congr g.1,EO.get_congr g.2]
  case idxB x y => simp only [evOp,EO.get_congr g.1,EO.get_congr g.2]
  case cntB x y => simp only [evOp,EO.get_congr g.1,EO.get_congr g.2]
  all_goals rfl
/-- 0: looks at no memory; 1: looks; 2: all else. -/
def EOp.kind:EOp → Nat
  | .mv _ | .pick .. | .build .. | .bin .. | .un .. | .toInt .. | .strId _ | .mkfn .. | .slcS .. | .field1 .. | .fieldN .. | .idxS .. | .ext .. | .lenS _ | .minmax .. | .maxN .. | .mkbm .. => 0
  | .load1 _ | .loadN .. | .nilck _ | .eq .. | .toStr _ | .slcL .. | .slcA .. | .faddr .. | .iaddrA .. | .iaddrL .. | .lenL _ | .lenM _ | .lookup .. | .cmpB .. | .idxB .. | .entry .. | .cntB .. => 1
  | _ => 2
theorem map_pair {o:Option V} {h h1:List Ob} {v:V} (e:(o.map fun v => (v,h)) = some (v,h1)):h1 = h ∧ ∀ h2:List Ob,(o.map fun v => (v,h2)) = some (v,h2) := by
  cases o with
  | none => cases e
  | some u => simp at e; obtain ⟨rfl,rfl⟩ := e; exact ⟨rfl,fun _ => rfl⟩
theorem evOp_deaf {o:EOp} (k:o.kind = 0) {t:Nat → V} {h h1:List Ob} {v:V} (e:evOp o t h = some (v,h1)):h1 = h ∧ ∀ h2,evOp o t h2 = some (v,h2) := by
  cases o <;> simp only [EOp.kind] at k <;> first | (cases k; done) | skip
  case mv x => simp only [evOp,Option.some.injEq,Prod.mk.injEq] at e ⊢; exact ⟨e.2.symm,fun _ => by simp [e.1]⟩
  case pick c a b =>
    simp only [evOp] at e ⊢
    split at e
    · simp only [Option.some.injEq,Prod.mk.injEq] at e ⊢; exact ⟨e.2.symm,fun _ => by simp [e.1]⟩
    · cases e
  case build z ps =>
    simp only [evOp] at e ⊢
    cases hf:fillV z (ps.map fun p => (p.1,p.2.1,p.2.2.get t)) with
    | none => rw [hf] at e; cases e
    | some u => rw [hf] at e; simp at e; obtain ⟨rfl,rfl⟩ := e; exact ⟨rfl,fun _ => rfl⟩
  case bin op x y => exact map_pair e
  case un op x => exact map_pair e
  case toInt k x =>
    simp only [evOp] at e ⊢
    split at e
    · simp only [Option.some.injEq,Prod.mk.injEq] at e ⊢; exact ⟨e.2.symm,fun _ => by simp [e.1]⟩
    · cases e
  case strId x =>
    simp only [evOp] at e ⊢
    split at e
    · simp only [Option.some.injEq,Prod.mk.injEq] at e ⊢; exact ⟨e.2.symm,fun _ => by simp [e.1]⟩
    · cases e
  case mkfn f cs => simp only [evOp,Option.some.injEq,Prod.mk.injEq] at e ⊢; exact ⟨e.2.symm,fun _ => by simp [e.1]⟩
  case slcS x lo hi =>
    simp only [evOp] at e ⊢
    split at e
    · exact map_pair e
    · cases e
  case field1 off x => exact map_pair e
  case fieldN off n x => exact map_pair e
  case idxS x i =>
    simp only [evOp] at e ⊢
    split at e
    · exact map_pair e
    · cases e
  case ext i x => exact map_pair e
  case lenS x =>
    simp only [evOp] at e ⊢
    split at e
    · simp only [Option.some.injEq,Prod.mk.injEq] at e ⊢; exact ⟨e.2.symm,fun _ => by simp [e.1]⟩
    · cases e
  case minmax mx x y => exact map_pair e
  case maxN x ys => exact map_pair e
  case mkbm f cs => simp only [evOp,Option.some.injEq,Prod.mk.injEq] at e ⊢; exact ⟨e.2.symm,fun _ => by simp [e.1]⟩
theorem evOp_look {o:EOp} (k:o.kind = 1) {t:Nat → V} {h h1:List Ob} {v:V} (e:evOp o t h = some (v,h1)):h1 = h := by
  cases o <;> simp only [EOp.kind] at k <;> first | (cases k; done) | skip
  case load1 a => exact (map_pair e).1
  case loadN n a => exact (map_pair e).1
  case nilck a => exact (map_pair e).1
  case eq ng T x y =>
    simp only [evOp,Option.map_eq_some_iff,Prod.mk.injEq] at e
    obtain ⟨_,_,_,rfl⟩ := e; rfl
  case toStr a => exact (map_pair e).1
  case slcL sz x lo hi mx =>
    simp only [evOp] at e
    split at e
    · split at e
      · split at e
        · exact (map_pair e).1
        · cases e
      · cases e
    · split at e
      · exact (map_pair e).1
      · cases e
    · exact (map_pair e).1
  case slcA => exact (map_pair e).1
  case faddr off x =>
    simp only [evOp] at e
    split at e
    · split at e
      · simp at e; exact e.2.symm
      · cases e
    · simp at e; exact e.2.symm
    · cases e
  case iaddrA =>
    simp only [evOp] at e
    split at e
    · exact (map_pair e).1
    · cases e
  case iaddrL =>
    simp only [evOp] at e
    split at e
    · exact (map_pair e).1
    · cases e
  case lenL x =>
    simp only [evOp,Option.map_eq_some_iff,Prod.mk.injEq] at e
    obtain ⟨_,_,_,rfl⟩ := e; rfl
  case lenM x =>
    simp only [evOp,Option.map_eq_some_iff,Prod.mk.injEq] at e
    obtain ⟨_,_,_,rfl⟩ := e; rfl
  case lookup => exact (map_pair e).1
  case entry x => exact (map_pair e).1
  case cmpB x y =>
    simp only [evOp] at e
    split at e
    · injection e with e; injection e with e1 e2; exact e2.symm
    · cases e
  case idxB x y =>
    simp only [evOp] at e
    split at e
    · injection e with e; injection e with e1 e2; exact e2.symm
    · cases e
  case cntB x y =>
    simp only [evOp] at e
    split at e
    · injection e with e; injection e with e1 e2; exact e2.symm
    · cases e
def EA.rd:EA → List Nat
  | .op o => o.rd
  | .call _ args => rdL args
  | .callv fv args => fv.rd ++ rdL args
  | .nextM x => x.rd
  | .bad => []
def EA.kind:EA → Nat
  | .op o => o.kind
  | _ => 2
def gRd:Option (Nat × Bool) → List Nat
  | none => []
  | some (s,_) => [s]
def EG.rd (g:EG):List Nat := gRd g.guard ++ g.act.rd
theorem wantE_congr {t t':Nat → V} {g:Option (Nat × Bool)} (h:Agree t t' (gRd g)):wantE t g = wantE t' g := by
  cases g with
  | none => rfl
  | some p =>
    obtain ⟨s,q⟩ := p
    have:t s = t' s := h s (by simp [gRd])
    simp only [wantE,this]
theorem evG_congr {t t':Nat → V} {g:EG} (a:Agree t t' g.rd) (h:List Ob):evG g t h = evG g t' h := by
  obtain ⟨a1,a2⟩ := agree_append.1 a
  unfold evG
  rw [wantE_congr a1]
  split
  · split
    · rename_i o ho
      rw [ho] at a2
      rw [evOp_congr a2]
    · rfl
  · rfl
  · rfl
theorem evG_deaf {g:EG} (k:g.act.kind = 0) {t:Nat → V} {h:List Ob} {v:V} (e:evG g t h = some v) (h2:List Ob):evG g t h2 = some v := by
  unfold evG at e ⊢
  split at e
  · split at e
    · rename_i o ho
      rw [ho] at k
      simp only [Option.map_eq_some_iff] at e
      obtain ⟨⟨u,h1⟩,e1,e2⟩ := e
      try simp only [ho]
      rw [(evOp_deaf k e1).2 h2]
      exact congrArg some e2
    · cases e
  · exact e
  · cases e
theorem wpA_mono {P:Program} {x:EA} {t t':Nat → V} {h:List Ob} {k k':V → List Ob → Prop} (a:Agree t t' x.rd) (w:wpA P x t h k) (hk:∀ v h',k v h' → k' v h'):wpA P x t' h k' := by
  cases x with
  | op o =>
    simp only [wpA] at w ⊢
    rw [← evOp_congr (o := o) a]
    unfold ifSome at w ⊢
    split at w
    · exact hk _ _ w
    · exact w.elim
  | call f args =>
    simp only [wpA] at w ⊢
    rw [← rdL_congr a]
    exact w.mono hk
  | callv fv args =>
    obtain ⟨a1,a2⟩ := agree_append.1 a
    simp only [wpA] at w ⊢
    rw [← rdL_congr a2,← EO.get_congr a1]
    split at w
    · exact ⟨w.1,w.2.mono hk⟩
    · exact ⟨w.1,w.2.mono hk⟩
    · exact w.elim
  | nextM y =>
    simp only [wpA] at w ⊢
    rw [← EO.get_congr (x := y) a]
    split at w
    · exact fun p hp => hk _ _ (w p hp)
    · exact w.elim
  | bad => exact w.elim
/-- An operation is done. -/
def step (P:Program) (g:EG) (t:Nat → V) (h:List Ob) (K:(Nat → V) → List Ob → Prop):Prop := match wantE t g.guard with
  | some true => wpA P g.act t h fun v h' => K (putT t g.dst v) h'
  | some false => K (putT t g.dst (.tup [])) h
  | none => False
/-- One that only looks. -/
theorem step_look {P:Program} {g:EG} (k:g.act.kind < 2) {t:Nat → V} {h:List Ob} {K:(Nat → V) → List Ob → Prop}:step P g t h K ↔ ∃ v,evG g t h = some v ∧ K (putT t g.dst v) h := by
  unfold step evG
  cases hw:wantE t g.guard with
  | none => simp
  | some b =>
    cases b with
    | false => simp
    | true =>
      simp only
      cases ha:g.act with
      | op o =>
        rw [ha] at k
        simp only [wpA,ifSome]
        cases he:evOp o t h with
        | none => simp
        | some p =>
          obtain ⟨v,h'⟩ := p
          have hh:h' = h := by
            have:o.kind < 2 := k
            rcases Nat.lt_or_ge o.kind 1 with q | q
            · exact (evOp_deaf (by omega) he).1
            · exact evOp_look (by omega) he
          subst hh
          simp
      | call f args => rw [ha] at k; simp [EA.kind] at k
      | callv f args => rw [ha] at k; simp [EA.kind] at k
      | nextM y => rw [ha] at k; simp [EA.kind] at k
      | bad => rw [ha] at k; simp [EA.kind] at k
/-- What the one writes the other neither reads nor writes, and the other way round. -/
def apart (a b:EG):Bool := match a.dst,b.dst with
  | none,none => true
  | some d,none => !b.rd.contains d
  | none,some e => !a.rd.contains e
  | some d,some e => !b.rd.contains d && !a.rd.contains e && d != e
theorem agree_put {t:Nat → V} {d:Option Nat} {l:List Nat} (h:∀ s,d = some s → s ∉ l) (v:V):Agree (putT t d v) t l := by
  intro s hs
  cases d with
  | none => rfl
  | some d =>
    have:s ≠ d := fun e => h d rfl (e ▸ hs)
    simp [putT,upd,this]
theorem apart_left {a b:EG} (h:apart a b = true):∀ s,a.dst = some s → s ∉ b.rd := by
  intro s hs
  unfold apart at h
  rw [hs] at h
  cases hb:b.dst <;> rw [hb] at h <;> simp at h <;> first | exact h | exact h.1.1
theorem apart_symm {a b:EG} (h:apart a b = true):apart b a = true := by
  unfold apart at h ⊢
  cases ha:a.dst <;> cases hb:b.dst <;> rw [ha,hb] at h <;> simp_all
  exact fun e => h.2 e.symm
theorem put_comm {a b:EG} (h:apart a b = true) (t:Nat → V) (u v:V):putT (putT t a.dst u) b.dst v = putT (putT t b.dst v) a.dst u := by
  unfold apart at h
  cases ha:a.dst with
  | none => rfl
  | some d => cases hb:b.dst with
    | none => rfl
    | some e =>
      rw [ha,hb] at h
      simp at h
      funext j
      simp only [putT,upd]
      by_cases h1:j = d
      · by_cases h2:j = e
        · exact absurd (h1.symm.trans h2) h.2
        · simp [h1,h2]; intro q; exact absurd q h.2
      · simp [h1]
end Go.Proofs.YtjpjeilfmjdhcaaDoor.E
/- The layer E, part 20: a region whose order is drawn: from one order to all. No condition. -/
namespace Go.Proofs.YtjpjeilfmjdhcaaDoor.E
set_option linter.unusedSimpArgs false
set_option linter.unusedVariables false
theorem wpI_cons {P:Program} {Q:Post} {i:EI} {rest:List EI} {t:Nat → V} {h:List Ob} :
    wpI P Q (i :: rest) t h ↔ step P ⟨i.dst,i.guard,i.act⟩ t h fun t' h' => andRe i.re t' h' (wpI P Q rest t' h') := by
  first
  | (simp only [wpI,step]; done)
  | (simp only [wpI,step]
     split <;> rename_i hw <;> rw [hw])
theorem andRe_iff {gs:List EG} {t:Nat → V} {h:List Ob} {K:Prop}:andRe gs t h K ↔ (∀ g,g ∈ gs → reck g t h) ∧ K := by
  induction gs with
  | nil => simp [andRe]
  | cons g gs ih => simp [andRe,ih,and_assoc]
theorem step_mono {P:Program} {g:EG} {t t':Nat → V} {h:List Ob} {K K':(Nat → V) → List Ob → Prop} (a:Agree t t' g.rd) (s:step P g t h K) (hk:∀ v h',K (putT t g.dst v) h' → K' (putT t' g.dst v) h'):step P g t' h K' := by
  obtain ⟨a1,a2⟩ := agree_append.1 a
  unfold step at s ⊢
  rw [← wantE_congr a1]
  split at s
  · exact wpA_mono a2 s hk
  · exact hk _ _ s
  · exact s.elim
def annI (cs:Nat → EG) (re:Nat → List Nat) (i:Nat):EI := ⟨(cs i).dst,(cs i).guard,(cs i).act,(re i).map cs⟩
def selfOk (g:EG):Bool := match g.dst with
  | some d => !g.rd.contains d
  | none => true
theorem agree_put' {a b:EG} (h:apart a b = true) (t:Nat → V) (v:V):Agree (putT t a.dst v) t b.rd := agree_put (fun s hs => apart_left h s hs) v
theorem put_get {t:Nat → V} {d:Nat} {v:V}:putT t (some d) v d = v := by simp [putT,upd]
theorem put_other' {t:Nat → V} {a:EG} {d:Nat} (h:a.dst ≠ some d) (v:V):putT t a.dst v d = t d := by
  cases ha:a.dst with
  | none => rfl
  | some e => simp only [putT,upd]; rw [if_neg (fun q => h (by rw [ha,q]))]
/-- The one writes nothing that the other uses. -/
def wr (b r:EG):Bool := match b.dst with
  | some d => !r.rd.contains d && r.dst != some d
  | none => true
theorem wr_spec {b r:EG} (h:wr b r = true):(∀ s,b.dst = some s → s ∉ r.rd) ∧ ∀ s,b.dst = some s → r.dst ≠ some s := by
  unfold wr at h
  refine ⟨fun s hs => ?_,fun s hs => ?_⟩ <;> rw [hs] at h <;> simp at h
  · exact h.1
  · exact h.2
theorem reck_put {b r:EG} (hb:wr b r = true) {t:Nat → V} {v:V} {h:List Ob} (k:reck r (putT t b.dst v) h):reck r t h := by
  obtain ⟨h1,h2⟩ := wr_spec hb
  unfold reck at k ⊢
  cases hd:r.dst with
  | none => rw [hd] at k; exact k.elim
  | some d =>
    rw [hd] at k
    simp only at k ⊢
    rw [evG_congr (agree_put h1 v)] at k
    rw [put_other' (fun q => h2 d q hd)] at k
    exact k
def okPair (cs:Nat → EG) (re:Nat → List Nat) (pc:Nat → List Nat) (a i:Nat):Bool :=
  decide ((cs a).act.kind < 2) && apart (cs a) (cs i) && selfOk (cs a) && (!((cs i).act.kind == 2 && (cs a).act.kind == 1) || (re i).contains a) &&
    (re i).all fun r => r == a || (pc r).contains a || wr (cs a) (cs r)
theorem okPair_spec {cs:Nat → EG} {re pc:Nat → List Nat} {a i:Nat} (h:okPair cs re pc a i = true) :
    (cs a).act.kind < 2 ∧ apart (cs a) (cs i) = true ∧ selfOk (cs a) = true ∧ ((cs i).act.kind = 2 → (cs a).act.kind = 1 → a ∈ re i) ∧ ∀ r,r ∈ re i → r = a ∨ a ∈ pc r ∨ wr (cs a) (cs r) = true := by
  simp only [okPair,Bool.and_eq_true,decide_eq_true_eq,Bool.or_eq_true,Bool.not_eq_true',List.all_eq_true,beq_iff_eq,List.contains_eq_mem,Bool.and_eq_false_iff,beq_eq_false_iff_ne] at h
  obtain ⟨⟨⟨⟨h1,h2⟩,h3⟩,h4⟩,h5⟩ := h
  refine ⟨h1,h2,h3,fun q1 q2 => ?_,fun r hr => ?_⟩
  · rcases h4 with (z | z) | z
    · exact absurd q1 z
    · exact absurd q2 z
    · exact z
  · rcases h5 r hr with (z | z) | z
    · exact .inl z
    · exact .inr (.inl z)
    · exact .inr (.inr z)
theorem kind_le (x:EA):x.kind ≤ 2 := by
  cases x with
  | op o => cases o <;> simp [EA.kind,EOp.kind]
  | _ => simp [EA.kind]
/-- Of an order whose first ones may come behind a later one: that one first. -/
theorem move {P:Program} {Q:Post} {cs:Nat → EG} {re:Nat → List Nat} {i:Nat} (hpi:(cs i).act.kind < 2 → re i = []):∀ (A B:List Nat) (t:Nat → V) (h:List Ob),
    (∀ a,a ∈ A → (cs a).act.kind < 2 ∧ re a = [] ∧ apart (cs a) (cs i) = true ∧ selfOk (cs a) = true ∧ ((cs i).act.kind = 2 → (cs a).act.kind = 1 → a ∈ re i)) →
    (∀ A1 b A2,A = A1 ++ b :: A2 → ∀ r,r ∈ re i → r ≠ b → r ∉ A2 → wr (cs b) (cs r) = true) → A.Nodup →
    wpI P Q ((A ++ i :: B).map (annI cs re)) t h →
    step P (cs i) t h fun t' h' => (∀ r,r ∈ re i → r ∉ A → reck (cs r) t' h') ∧ wpI P Q ((A ++ B).map (annI cs re)) t' h'
  | [],B,t,h,_,_,_,w => by
    simp only [List.nil_append,List.map_cons] at w
    rw [wpI_cons] at w
    refine step_mono (fun _ _ => rfl) w (fun v h' k => ?_)
    obtain ⟨k1,k2⟩ := andRe_iff.1 k
    exact ⟨fun r hr _ => k1 _ (List.mem_map.2 ⟨r,hr,rfl⟩),k2⟩
  | a :: A,B,t,h,hA,hR,hn,w => by
    obtain ⟨ka,rea,apa,sa,rd⟩ := hA a (by simp)
    simp only [List.cons_append,List.map_cons] at w
    rw [wpI_cons] at w
    obtain ⟨va,e1,w1⟩ := (step_look (g := cs a) ka).1 w
    have w1' := andRe_iff.1 w1
    have w2:wpI P Q ((A ++ i :: B).map (annI cs re)) (putT t (cs a).dst va) h := w1'.2
    have hn' := List.nodup_cons.1 hn
    have ih := move hpi A B (putT t (cs a).dst va) h (fun b hb => hA b (by simp [hb]))
      (fun A1 b A2 hs r hr hne hrA => hR (a :: A1) b A2 (by rw [hs]; rfl) r hr hne hrA) hn'.2 w2
    have e2:∀ v,evG (cs a) (putT t (cs i).dst v) h = some va := fun v => by
      rw [evG_congr (agree_put' (apart_symm apa) t v)]; exact e1
    have fin:∀ v h',evG (cs a) (putT t (cs i).dst v) h' = some va → wpI P Q ((A ++ B).map (annI cs re)) (putT (putT t (cs i).dst v) (cs a).dst va) h' →
        wpI P Q ((a :: A ++ B).map (annI cs re)) (putT t (cs i).dst v) h' := by
      intro v h' e k
      simp only [List.cons_append,List.map_cons]
      rw [wpI_cons]
      refine (step_look (g := cs a) ka).2 ⟨va,e,?_⟩
      show andRe ((re a).map cs) _ _ _
      rw [rea]
      exact k
    have res:∀ v h',(∀ r,r ∈ re i → r ∉ A → reck (cs r) (putT (putT t (cs i).dst v) (cs a).dst va) h') → ∀ r,r ∈ re i → r ∉ a :: A → reck (cs r) (putT t (cs i).dst v) h' := by
      intro v h' k1 r hr hra
      have hra' := not_or.1 (fun q => hra (List.mem_cons.2 q))
      exact reck_put (hR [] a A rfl r hr hra'.1 hra'.2) (k1 r hr hra'.2)
    rcases Nat.lt_or_ge (cs i).act.kind 2 with q | q
    · obtain ⟨vi,g1,g2,g3⟩ := (step_look q).1 ih
      rw [put_comm apa] at g2 g3
      rw [evG_congr (agree_put' apa t va)] at g1
      exact (step_look q).2 ⟨vi,g1,res vi h g2,fin vi h (e2 vi) g3⟩
    · refine step_mono (agree_put' apa t va) ih (fun v h' k => ?_)
      obtain ⟨k1,k2⟩ := k
      rw [put_comm apa] at k1 k2
      refine ⟨res v h' k1,fin v h' ?_ k2⟩
      rcases Nat.lt_or_ge (cs a).act.kind 1 with z | z
      · exact evG_deaf (by omega) (e2 v) h'
      · have hk2:(cs i).act.kind = 2 := by have := kind_le (cs i).act; omega
        have := k1 a (rd hk2 (by omega)) hn'.1
        unfold reck at this
        cases hd:(cs a).dst with
        | none => rw [hd] at this; exact this.elim
        | some d =>
          rw [hd] at this
          simp only [put_get] at this
          have hs:Agree (putT (putT t (cs i).dst v) (some d) va) (putT t (cs i).dst v) (cs a).rd := by
            refine agree_put (fun s hs => ?_) va
            injection hs with hs; subst hs
            unfold selfOk at sa
            rw [hd] at sa
            simpa using sa
          rw [evG_congr hs] at this
          exact this
end Go.Proofs.YtjpjeilfmjdhcaaDoor.E
/- The layer E, part 21: a region whose order is drawn: all its orders. No condition. -/
namespace Go.Proofs.YtjpjeilfmjdhcaaDoor.E
set_option linter.unusedSimpArgs false
set_option linter.unusedVariables false
def preOf (ops:Array Oper) (i:Nat):List Nat := match ops[i]? with
  | some o => (o.after.toList.filter (fun e => Region.binds .any e)).map (·.on)
  | none => []
def chk (ops:Array Oper) (cs:Nat → EG) (re pc:Nat → List Nat):List Nat → List Nat → Bool
  | _,[] => true
  | seen,i :: rest => !seen.contains i && (decide (i < ops.size) && ((preOf ops i).all (seen.contains ·) && ((pc i).all (fun j => seen.contains j && (preOf ops i).any (fun p => p == j || (pc p).contains j)) &&
      (((cs i).act.kind == 2 || (re i).isEmpty) && ((re i).all (seen.contains ·) && (seen.all (fun a => (pc i).contains a || okPair cs re pc a i) && chk ops cs re pc (i :: seen) rest))))))
structure Vd1 (ops:Array Oper) (cs:Nat → EG) (re pc:Nat → List Nat) (before:Nat → Prop) (i:Nat):Prop where
  lt:i < ops.size
  pre:∀ p,p ∈ preOf ops i → before p
  pcs:∀ j,j ∈ pc i → before j ∧ ∃ p,p ∈ preOf ops i ∧ (p = j ∨ j ∈ pc p)
  quiet:(cs i).act.kind < 2 → re i = []
  res:∀ r,r ∈ re i → before r
theorem chk_spec {ops:Array Oper} {cs:Nat → EG} {re pc:Nat → List Nat}:∀ (C seen:List Nat),chk ops cs re pc seen C = true →
    ∀ A i B,C = A ++ i :: B → (i ∉ A ∧ i ∉ seen) ∧ Vd1 ops cs re pc (fun j => j ∈ A ∨ j ∈ seen) i ∧ ∀ a,(a ∈ A ∨ a ∈ seen) → a ∈ pc i ∨ okPair cs re pc a i = true
  | [],seen,h,A,i,B,e => by cases A <;> simp at e
  | c :: C,seen,h,A,i,B,e => by
    simp only [chk,Bool.and_eq_true,decide_eq_true_eq,Bool.not_eq_true',List.all_eq_true,Bool.or_eq_true,List.contains_eq_mem,decide_eq_false_iff_not,List.any_eq_true,beq_iff_eq,List.isEmpty_iff] at h
    obtain ⟨h1,h2,h3,h4,h5,h6,h7,h8⟩ := h
    cases A with
    | nil =>
      simp only [List.nil_append,List.cons.injEq] at e
      obtain ⟨rfl,rfl⟩ := e
      refine ⟨⟨by simp,h1⟩,⟨h2,fun p hp => .inr (h3 p hp),fun j hj => ⟨.inr (h4 j hj).1,?_⟩,fun hk => ?_,fun r hr => .inr (h6 r hr)⟩,fun a ha => ?_⟩
      · exact (h4 j hj).2
      · rcases h5 with q | q
        · omega
        · exact q
      · rcases ha with q | q
        · simp at q
        · exact h7 a q
    | cons a A =>
      simp only [List.cons_append,List.cons.injEq] at e
      obtain ⟨rfl,rfl⟩ := e
      obtain ⟨g1,g2,g3⟩ := chk_spec _ (c :: seen) h8 A i B rfl
      have key:∀ j,(j ∈ A ∨ j ∈ c :: seen) → (j ∈ c :: A ∨ j ∈ seen) := by
        intro j hj
        simp only [List.mem_cons] at hj ⊢
        rcases hj with q | q | q
        · exact .inl (.inr q)
        · exact .inl (.inl q)
        · exact .inr q
      have key':∀ j,(j ∈ c :: A ∨ j ∈ seen) → (j ∈ A ∨ j ∈ c :: seen) := by
        intro j hj
        simp only [List.mem_cons] at hj ⊢
        rcases hj with (q | q) | q
        · exact .inr (.inl q)
        · exact .inl q
        · exact .inr (.inr q)
      refine ⟨⟨fun q => ?_,fun q => g1.2 (by simp [q])⟩,⟨g2.lt,fun p hp => key _ (g2.pre p hp),fun j hj => ⟨key _ (g2.pcs j hj).1,(g2.pcs j hj).2⟩,g2.quiet,fun r hr => key _ (g2.res r hr)⟩,fun a ha => g3 a (key' a ha)⟩
      rcases List.mem_cons.1 q with q | q
      · exact g1.2 (by simp [q])
      · exact g1.1 q
def goR (m:Region.Mode) (ops:Array Oper):Nat → Nat → Array Bool → List Nat
  | 0,_,_ => []
  | fuel + 1,t,listed =>
    let rs := (List.range ops.size).filter fun i =>
      !listed.getD i true && ((ops[i]?).map (·.after.all fun e => !Region.binds m e || listed.getD e.on false)).getD false
    match rs[t % rs.length]? with
    | some i => i :: goR m ops fuel (t / rs.length) (listed.setIfInBounds i true)
    | none => []
theorem go_eq (m:Region.Mode) (ops:Array Oper):∀ (fuel t:Nat) (listed:Array Bool) (acc:List Nat),Region.linearise.go m ops fuel t listed acc = acc.reverse ++ goR m ops fuel t listed
  | 0,t,listed,acc => by simp [Region.linearise.go,goR]
  | fuel + 1,t,listed,acc => by
    simp only [Region.linearise.go,goR]
    generalize (List.filter _ (List.range ops.size)) = rs
    cases rs[t % rs.length]? with
    | none => simp
    | some i =>
      simp only
      rw [go_eq m ops fuel]
      simp
theorem append_split {α : Type} {A B A2 B2:List α} {j : α} (e:A ++ B = A2 ++ j :: B2):(∃ X,A = A2 ++ j :: X ∧ B2 = X ++ B) ∨ (∃ X,B = X ++ j :: B2 ∧ A2 = A ++ X) := by
  rcases List.append_eq_append_iff.1 e with ⟨X,h1,h2⟩ | ⟨X,h1,h2⟩
  · exact .inr ⟨X,h2,h1⟩
  · cases X with
    | nil => simp at h1 h2; exact .inr ⟨[],by simp [h2],by simp [h1]⟩
    | cons x X =>
      simp only [List.cons_append,List.cons.injEq] at h2
      obtain ⟨rfl,rfl⟩ := h2
      exact .inl ⟨X,h1,rfl⟩
section
variable {P:Program} {Q:Post} {ops:Array Oper} {cs:Nat → EG} {re pc:Nat → List Nat}
def Vd (ops:Array Oper) (cs:Nat → EG) (re pc:Nat → List Nat) (listed:Nat → Prop) (C:List Nat):Prop :=
  ∀ A i B,C = A ++ i :: B → i ∉ A ∧ Vd1 ops cs re pc (fun j => j ∈ A ∨ listed j) i ∧ ∀ a,a ∈ A → a ∈ pc i ∨ okPair cs re pc a i = true
theorem nodup_of {α : Type}:∀ {C:List α},(∀ A i B,C = A ++ i :: B → i ∉ A) → C.Nodup
  | [],_ => List.nodup_nil
  | c :: C,h => List.nodup_cons.2 ⟨fun q => by
      obtain ⟨X,Y,e⟩ := List.append_of_mem q
      exact h (c :: X) c Y (by rw [e]; rfl) (by simp),nodup_of fun A i B e => fun q => h (c :: A) i B (by rw [e]; rfl) (by simp [q])⟩
/-- With one taken out. -/
theorem Vd.out {listed listed':Nat → Prop} {A B:List Nat} {i:Nat} (v:Vd ops cs re pc listed (A ++ i :: B)) (hl:∀ j,listed j → listed' j) (hi:listed' i):Vd ops cs re pc listed' (A ++ B) := by
  intro A2 j B2 e
  have mk:∀ A3 B3,A ++ i :: B = A3 ++ j :: B3 → (∀ x,x ∈ A3 → x = i ∨ x ∈ A2) → (∀ x,x ∈ A2 → x ∈ A3) → j ∉ A2 ∧ Vd1 ops cs re pc (fun k => k ∈ A2 ∨ listed' k) j ∧ ∀ a,a ∈ A2 → a ∈ pc j ∨ okPair cs re pc a j = true := by
    intro A3 B3 e3 h1 h2
    obtain ⟨g1,g2,g3⟩ := v A3 j B3 e3
    have key:∀ x,(x ∈ A3 ∨ listed x) → (x ∈ A2 ∨ listed' x) := by
      rintro x (q | q)
      · rcases h1 x q with rfl | z
        · exact .inr hi
        · exact .inl z
      · exact .inr (hl x q)
    exact ⟨fun q => g1 (h2 j q),⟨g2.lt,fun p hp => key p (g2.pre p hp),fun k hk => ⟨key k (g2.pcs k hk).1,(g2.pcs k hk).2⟩,g2.quiet,fun r hr => key r (g2.res r hr)⟩,fun a ha => g3 a (h2 a ha)⟩
  rcases append_split e with ⟨X,h1,h2⟩ | ⟨X,h1,h2⟩
  · subst h1 h2
    exact mk A2 (X ++ i :: B) (by simp) (fun x hx => .inr hx) (fun x hx => hx)
  · subst h1 h2
    exact mk (A ++ i :: X) B2 (by simp) (fun x hx => by simp at hx ⊢; rcases hx with q | q | q <;> simp [q]) (fun x hx => by simp at hx ⊢; rcases hx with q | q <;> simp [q])
theorem draw_main:∀ (fuel tk:Nat) (listed:Array Bool) (C:List Nat) (t:Nat → V) (h:List Ob),C.length ≤ fuel → listed.size = ops.size →
    (∀ i,i ∈ C ↔ i < ops.size ∧ listed.getD i false = false) → (∀ i,listed.getD i false = true → ∀ j,j ∈ pc i → listed.getD j false = true) →
    Vd ops cs re pc (fun i => listed.getD i false = true) C → wpI P Q (C.map (annI cs re)) t h → wpI P Q ((goR .any ops fuel tk listed).map (annI cs fun _ => [])) t h := by
  intro fuel
  induction fuel with
  | zero =>
    intro tk listed C t h hf _ _ _ _ w
    cases C with
    | nil => exact w
    | cons c C => simp at hf
  | succ fuel ih =>
    intro tk listed C t h hf hsz hC hpc v w
    have hmem:∀ i,i ∈ ((List.range ops.size).filter fun i =>
      !listed.getD i true && ((ops[i]?).map (·.after.all fun e => !Region.binds .any e || listed.getD e.on false)).getD false) ↔
        i ∈ C ∧ ∀ p,p ∈ preOf ops i → listed.getD p false = true := by
      intro i
      rw [List.mem_filter,List.mem_range,hC]
      constructor
      · rintro ⟨h1,h2⟩
        simp only [Bool.and_eq_true,Bool.not_eq_true'] at h2
        obtain ⟨h2,h3⟩ := h2
        refine ⟨⟨h1,?_⟩,fun p hp => ?_⟩
        · rw [Array.getD_eq_getD_getElem?,Array.getElem?_eq_getElem (by omega)] at h2 ⊢
          exact h2
        · unfold preOf at hp
          rw [Array.getElem?_eq_getElem h1] at hp h3
          simp only [List.mem_map,List.mem_filter] at hp
          obtain ⟨e,⟨e1,e2⟩,rfl⟩ := hp
          simp only [Option.map_some,Option.getD_some,Array.all_eq_true_iff_forall_mem,Bool.or_eq_true,Bool.not_eq_true'] at h3
          rcases h3 e (by simpa using e1) with q | q
          · rw [e2] at q; cases q
          · exact q
      · rintro ⟨⟨h1,h2⟩,h3⟩
        refine ⟨h1,?_⟩
        simp only [Bool.and_eq_true,Bool.not_eq_true']
        refine ⟨?_,?_⟩
        · rw [Array.getD_eq_getD_getElem?,Array.getElem?_eq_getElem (by omega)] at h2 ⊢
          exact h2
        · rw [Array.getElem?_eq_getElem h1]
          simp only [Option.map_some,Option.getD_some,Array.all_eq_true_iff_forall_mem,Bool.or_eq_true,Bool.not_eq_true']
          intro e he
          cases hb:Region.binds .any e with
          | false => exact .inl rfl
          | true =>
            refine .inr (h3 e.on ?_)
            unfold preOf
            rw [Array.getElem?_eq_getElem h1]
            simp only [List.mem_map,List.mem_filter]
            exact ⟨e,⟨by simpa using he,hb⟩,rfl⟩
    simp only [goR]
    generalize hrs:((List.range ops.size).filter fun i =>
      !listed.getD i true && ((ops[i]?).map (·.after.all fun e => !Region.binds .any e || listed.getD e.on false)).getD false) = rs at hmem ⊢
    cases hr:rs[tk % rs.length]? with
    | none =>
      simp only
      cases C with
      | nil => exact w
      | cons c C =>
        exfalso
        have hc:c ∈ rs := (hmem c).2 ⟨by simp,fun p hp => ((v [] c C rfl).2.1.pre p hp).elim (fun q => by simp at q) (fun q => q)⟩
        have hl:0 < rs.length := List.length_pos_of_mem hc
        rw [List.getElem?_eq_getElem (Nat.mod_lt _ hl)] at hr
        cases hr
    | some i =>
      simp only
      have hi:i ∈ rs := List.mem_of_getElem? hr
      obtain ⟨hiC,hpre⟩ := (hmem i).1 hi
      obtain ⟨A,B,rfl⟩ := List.append_of_mem hiC
      have hnd := nodup_of fun A i B e => (v A i B e).1
      obtain ⟨g1,g2,g3⟩ := v A i B rfl
      have hil := (hC i).1 hiC
      have unl:∀ a,a ∈ A → listed.getD a false = false := fun a ha => ((hC a).1 (by simp [ha])).2
      have hpci:∀ j,j ∈ pc i → listed.getD j false = true := by
        intro j hj
        obtain ⟨p,hp,q⟩ := (g2.pcs j hj).2
        rcases q with rfl | q
        · exact hpre p hp
        · exact hpc p (hpre p hp) j q
      have hok:∀ a,a ∈ A → okPair cs re pc a i = true := by
        intro a ha
        rcases g3 a ha with q | q
        · have := hpci a q; rw [unl a ha] at this; cases this
        · exact q
      have hA:A.Nodup := (List.nodup_append.1 hnd).1
      have st := move (P := P) (Q := Q) (cs := cs) (re := re) (i := i) g2.quiet A B t h (fun a ha => by
          obtain ⟨q1,q2,q3,q4,q5⟩ := okPair_spec (hok a ha)
          obtain ⟨X,Y,e⟩ := List.append_of_mem ha
          obtain ⟨_,u2,_⟩ := v X a (Y ++ i :: B) (by rw [e]; simp)
          exact ⟨q1,u2.quiet q1,q2,q3,q4⟩)
        (fun A1 b A2 e r hr hne hrA => by
          have hb:b ∈ A := by rw [e]; simp
          obtain ⟨q1,q2,q3,q4,q5⟩ := okPair_spec (hok b hb)
          rcases q5 r hr with q | q | q
          · exact absurd q hne
          · exfalso
            -- 'b' is ahead of 'r': so 'r' is not ahead of 'b', and is not listed
            rcases g2.res r hr with z | z
            · rw [e] at z
              have hrA1:r ∈ A1 := by
                simp only [List.mem_append,List.mem_cons] at z
                rcases z with z | z | z
                · exact z
                · exact absurd z hne
                · exact absurd z hrA
              obtain ⟨X,Y,e'⟩ := List.append_of_mem hrA1
              obtain ⟨_,u2,_⟩ := v X r (Y ++ b :: A2 ++ i :: B) (by rw [e,e']; simp)
              rcases (u2.pcs b q).1 with y | y
              · rw [e,e'] at hA
                have:(X ++ r :: Y ++ b :: A2).Nodup := hA
                have := (List.nodup_append.1 this).2.2 b (by simp [y]) b (by simp)
                exact this rfl
              · rw [unl b hb] at y; cases y
            · have := hpc r z b q
              rw [unl b hb] at this; cases this
          · exact q) hA w
      simp only [List.map_cons]
      rw [wpI_cons]
      refine step_mono (fun _ _ => rfl) st (fun v' h' k => ?_)
      rw [andRe_iff]
      refine ⟨fun g hg => by simp [annI] at hg,?_⟩
      have hget:∀ j,(listed.setIfInBounds i true).getD j false = true ↔ j = i ∨ listed.getD j false = true := by
        intro j
        rw [Array.getD_eq_getD_getElem?,Array.getD_eq_getD_getElem?,Array.getElem?_setIfInBounds]
        split
        · rename_i q; subst q
          simp [hsz,hil.1]
        · rename_i q
          constructor
          · intro z; exact .inr z
          · rintro (z | z)
            · exact absurd z.symm q
            · exact z
      refine ih (tk / rs.length) (listed.setIfInBounds i true) (A ++ B) _ h' ?_ (by simpa using hsz) ?_ ?_ ?_ k.2
      · simp only [List.length_append,List.length_cons] at hf ⊢; omega
      · intro j
        have hf':(listed.setIfInBounds i true).getD j false = false ↔ ¬ (j = i ∨ listed.getD j false = true) := by
          rw [← hget j]; simp
        rw [hf']
        have := hC j
        simp only [List.mem_append,List.mem_cons] at this ⊢
        have hiA:i ∉ A := g1
        have hiB:i ∉ B := by
          have := (List.nodup_append.1 hnd).2.1
          exact (List.nodup_cons.1 this).1
        constructor
        · intro q
          have hj:j ≠ i := by rintro rfl; exact q.elim hiA hiB
          obtain ⟨z1,z2⟩ := this.1 (q.elim .inl (fun z => .inr (.inr z)))
          exact ⟨z1,fun y => y.elim hj (fun y => by rw [z2] at y; cases y)⟩
        · rintro ⟨z1,z2⟩
          have z3:listed.getD j false = false := by simpa using fun y => z2 (.inr y)
          rcases this.2 ⟨z1,z3⟩ with y | y | y
          · exact .inl y
          · exact absurd (.inl y) z2
          · exact .inr y
      · intro j hj k' hk'
        rw [hget] at hj ⊢
        rcases hj with rfl | hj
        · exact .inr (hpci k' hk')
        · exact .inr (hpc j hj k' hk')
      · exact v.out (fun j hj => (hget j).2 (.inr hj)) ((hget i).2 (.inl rfl))
end
end Go.Proofs.YtjpjeilfmjdhcaaDoor.E
