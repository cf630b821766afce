/- The layer E, part 13: maps, and ranging over strings and maps. No condition. -/
import Derived.Test.YtdcdmpgigmhhpaaE12
namespace Go.Proofs.Ytdcdmpgigmhhpaa.E
set_option linter.unusedSimpArgs false
set_option linter.unusedVariables false

def LK.fits (P : Program) (t : TypeId) : LK → Prop
  | .i => ∃ k, P.underlying t = some (.int k)
  | .s => P.underlying t = some .string
  | .b => P.underlying t = some .bool

def findV (kt : LK) (k : V) : List (V × V × Nat) → Nat → Option (Option (Nat × V))
  | [], _ => some none
  | (k', v, _) :: es, i => match eqAt kt (some k) (some k') with
    | some true => some (some (i, v))
    | some false => findV kt k es (i + 1)
    | none => none

theorem sameNow_spec {P : Program} {L : Loc} {w : World} {kt : LK} {t : TypeId} {d : TypeDesc} (hf : kt.fits P t) (hd : P.underlying t = some d) {k k' : V} {x x' : Value} {r : Bool} (h : Rep L w k x) (h' : Rep L w k' x')
    (he : eqAt kt (some k) (some k') = some r) : Instr.sameNow d x x' = some r ∧ (r = true → k = k' ∧ Instr.sameBits 10000 x' x = true) := by
  cases kt with
  | i =>
    obtain ⟨q, hq⟩ := hf
    rw [hq] at hd; injection hd with hd; subst hd
    cases k <;> cases k' <;> simp [eqAt] at he
    obtain ⟨rfl, rfl⟩ := he
    cases h; cases h'
    refine ⟨by simp [Instr.sameNow], fun hr => ?_⟩
    simp at hr; subst hr
    exact ⟨rfl, by simp [Instr.sameBits]⟩
  | s =>
    rw [show P.underlying t = some .string from hf] at hd; injection hd with hd; subst hd
    cases k <;> cases k' <;> simp [eqAt] at he
    subst he
    cases h; cases h'
    refine ⟨by simp only [Instr.sameNow]; rw [beq_toListBytes, ByteArray.toList_mk, ByteArray.toList_mk], fun hr => ?_⟩
    simp at hr; subst hr
    exact ⟨rfl, by simp only [Instr.sameBits]; rw [beq_toListBytes]; simp⟩
  | b =>
    rw [show P.underlying t = some .bool from hf] at hd; injection hd with hd; subst hd
    cases k <;> cases k' <;> simp [eqAt] at he
    subst he
    cases h; cases h'
    refine ⟨by simp [Instr.sameNow], fun hr => ?_⟩
    simp at hr; subst hr
    exact ⟨rfl, by simp [Instr.sameBits]⟩

/-- Entries that stand for entries. -/
def EntsRep (L : Loc) (w : World) (ents : List (V × V × Nat)) (mes : List MapEntry) : Prop :=
  mes.length = ents.length ∧ ∀ (i : Nat) (k v : V) (t : Nat), ents[i]? = some (k, v, t) → ∃ e : MapEntry, mes[i]? = some e ∧ Rep L w k e.key ∧ Rep L w v e.val ∧ e.born = t

theorem EntsRep.tail {L : Loc} {w : World} {p : V × V × Nat} {ents : List (V × V × Nat)} {m : MapEntry} {mes : List MapEntry} (h : EntsRep L w (p :: ents) (m :: mes)) : EntsRep L w ents mes :=
  ⟨by simpa using h.1, fun i k v t hi => by obtain ⟨e, q⟩ := h.2 (i + 1) k v t (by simpa using hi); exact ⟨e, by simpa using q⟩⟩

theorem findNow_spec {P : Program} {L : Loc} {w : World} {kt : LK} {t : TypeId} {d : TypeDesc} (hf : kt.fits P t) (hd : P.underlying t = some d) {k : V} {x : Value} (h : Rep L w k x) :
    ∀ (ents : List (V × V × Nat)) (mes : List MapEntry) (n : Nat) (r : Option (Nat × V)), EntsRep L w ents mes → findV kt k ents n = some r →
    ∃ r', Instr.findNow d x mes n = some r' ∧ (match r, r' with
      | none, none => True
      | some (i, v), some (j, y) => i = j ∧ n ≤ i ∧ Rep L w v y ∧ (∃ k' t', ents[i - n]? = some (k', v, t') ∧ k' = k) ∧ (∃ e, mes[i - n]? = some e ∧ Instr.sameBits 10000 e.key x = true)
      | _, _ => False)
  | [], mes, n, r, he, hr => by
    simp [findV] at hr; subst hr
    have : mes = [] := List.length_eq_zero_iff.1 (by simpa using he.1)
    subst this
    exact ⟨none, rfl, trivial⟩
  | (k', v, t') :: ents, [], n, r, he, hr => by simp [EntsRep] at he
  | (k', v, t') :: ents, m :: mes, n, r, he, hr => by
    obtain ⟨e, q1, q2, q3, q4⟩ := he.2 0 k' v t' (by simp)
    simp at q1; subst q1
    simp only [findV] at hr
    split at hr
    · rename_i heq
      injection hr with hr; subst hr
      obtain ⟨s1, s2⟩ := sameNow_spec hf hd h q2 heq
      obtain ⟨s3, s4⟩ := s2 rfl
      refine ⟨some (n, m.val), by simp [Instr.findNow, s1], rfl, Nat.le_refl _, q3, ⟨k', t', by simp, s3.symm⟩, ⟨m, by simp, s4⟩⟩
    · rename_i heq
      obtain ⟨s1, _⟩ := sameNow_spec hf hd h q2 heq
      obtain ⟨r', g1, g2⟩ := findNow_spec hf hd h ents mes (n + 1) r he.tail hr
      refine ⟨r', by simp [Instr.findNow, s1, g1], ?_⟩
      cases r with
      | none => cases r' with
        | none => trivial
        | some p => exact g2
      | some p => cases r' with
        | none => exact g2
        | some p' =>
          obtain ⟨i, v⟩ := p; obtain ⟨j, y⟩ := p'
          obtain ⟨a1, a2, a3, a4, a5⟩ := g2
          refine ⟨a1, by omega, a3, ?_, ?_⟩
          · obtain ⟨k', t', z⟩ := a4
            exact ⟨k', t', by rw [show i - n = (i - (n + 1)) + 1 by omega]; simpa using z⟩
          · obtain ⟨e, z⟩ := a5
            exact ⟨e, by rw [show i - n = (i - (n + 1)) + 1 by omega]; simpa using z⟩
    · cases hr

theorem run_findKey {P : Program} {w : World} {t : TypeId} {d : TypeDesc} (hd : P.underlying t = some d) {x : Value} {mes : List MapEntry} {r : Option (Nat × Value)} (h : Instr.findNow d x mes 0 = some r) :
    (Instr.findKey t x mes).run P w = .ok r w := by
  simp only [Instr.findKey, Sem.run_bind, run_underlying hd, Result.andThen_ok, h, Sem.run_pure]

theorem run_checkKey {P : Program} {w : World} {kt : LK} {t : TypeId} (hf : kt.fits P t) (b : Bool) (n : Nat) (x : Value) : (Instr.checkKey b (n + 1) t x).run P w = .ok () w := by
  cases kt with
  | i => obtain ⟨k, hk⟩ := hf; simp only [Instr.checkKey, Sem.run_bind, run_underlying hk, Result.andThen_ok]; rfl
  | s => simp only [Instr.checkKey, Sem.run_bind, run_underlying (show P.underlying t = some .string from hf), Result.andThen_ok]; rfl
  | b => simp only [Instr.checkKey, Sem.run_bind, run_underlying (show P.underlying t = some .bool from hf), Result.andThen_ok]; rfl

theorem fits_some {P : Program} {kt : LK} {t : TypeId} (hf : kt.fits P t) : ∃ d, P.underlying t = some d := by
  cases kt with
  | i => obtain ⟨k, hk⟩ := hf; exact ⟨_, hk⟩
  | s => exact ⟨_, hf⟩
  | b => exact ⟨_, hf⟩

theorem run_getObj_map {P : Program} {w : World} {b : Nat} {mes : Array MapEntry} {clock : Nat} (h : w.heap[b]? = some (.map mes clock)) : (getObj b).run P w = .ok (.map mes clock) w := by
  simp only [getObj, Sem.run, h]

theorem run_setObj_map {P : Program} {w : World} {b : Nat} {mes : Array MapEntry} {clock : Nat} (h : w.heap[b]? = some (.map mes clock)) (o : Obj) : (setObj b o).run P w = .ok () (E.put w b o) := by
  simp only [setObj, Sem.run, h]; rfl

theorem fr_putMap {B : Nat → Prop} {w : World} {b : Nat} {mes mes' : Array MapEntry} {c c' : Nat} (hb : B b) (h : w.heap[b]? = some (.map mes c)) : Fr B w (put w b (.map mes' c')) := by
  have hlt := (Array.getElem?_eq_some_iff.1 h).1
  refine ⟨rfl, rfl, rfl, by simp [put], fun k hk hn => put_other (fun q => hn (q ▸ hb)), fun k hk => ?_⟩
  by_cases q : k = b
  · subst q
    unfold bsz
    rw [put_same hlt, h]
  · exact bsz_of_heap (put_other q)

/-! ### lookup -/
def okV (ok : Bool) (v : V) (b : Bool) : V := if ok then .tup [v, .bool b] else v

def evLookup (h : List Ob) (kt : LK) (z : V) (ok : Bool) (m k : V) : Option V :=
  match m with
  | .nilm => (findV kt k [] 0).map fun _ => okV ok z false
  | .mp id => match h[id]? with
    | some (.map ents _) => (findV kt k ents 0).map fun
      | some (_, v) => okV ok v true
      | none => okV ok z false
    | _ => none
  | _ => none

theorem okV_rep {L : Loc} {w : World} {ok b : Bool} {v : V} {x : Value} (h : Rep L w v x) : Rep L w (okV ok v b) (if ok then .tuple #[x, .bool b] else x) := by
  unfold okV
  cases ok with
  | true =>
    refine .tup #[x, .bool b] rfl (fun k c hk => ?_)
    match k, hk with
    | 0, hk => simp at hk; subst hk; exact h
    | 1, hk => simp at hk; subst hk; exact .bool b
    | k + 2, hk => simp at hk
  | false => exact h

theorem lookup_good {P : Program} {L : Loc} {h : List Ob} {w : World} (H : HRel L h w) {t kT eT : TypeId} {i : TypeInfo} {zv : Value} {kt : LK} {z : V} {ok : Bool} (hu : P.underlying t = some (.map kT eT)) (hf : kt.fits P kT)
    (hinf : P.info? eT = some i) (hz : i.zero = some zv) (hzv : ofZero zv = some z) {m k r : V} {x y : Value} (rm : Rep L w m x) (rk : Rep L w k y) (he : evLookup h kt z ok m k = some r) :
    Good P L w (Instr.lookup t x y ok) r h := by
  obtain ⟨d, hd⟩ := fits_some hf
  have hzr : ∀ w', (zeroValue eT).run P w' = .ok zv w' := fun w' => by simp [zeroValue, typeInfo, hinf, hz]
  unfold evLookup at he
  split at he
  · simp only [findV, Option.map_some, Option.some.injEq] at he
    subst he
    cases rm
    refine .same H (x := if ok then .tuple #[zv, .bool false] else zv) ?_ (okV_rep (ofZero_rep hzv))
    have hfk : (Instr.findKey kT y [] : Sem _).run P w = .ok none w := run_findKey hd rfl
    simp only [Instr.lookup, Sem.run_bind, run_underlying hu, Result.andThen_ok, Sem.run_pure, run_checkKey hf, hfk, hzr]
  · rename_i id
    split at he
    · rename_i ents clock hob
      obtain ⟨b, base, sz, mes, h1, h2, h3, h4⟩ := H.obs id _ hob
      simp only [Option.map_eq_some_iff] at he
      obtain ⟨o, ho, hr⟩ := he
      have her : EntsRep L w ents mes.toList := ⟨by simpa using h3, fun i k v t hi => by simpa using h4 i k v t hi⟩
      obtain ⟨r', g1, g2⟩ := findNow_spec (P := P) hf hd rk ents mes.toList 0 o her ho
      have hfk : ∀ w', (Instr.findKey kT y mes.toList : Sem _).run P w' = .ok r' w' := fun w' => run_findKey hd g1
      cases rm with
      | mp g =>
        rw [h1] at g; injection g with g; injection g with q1 q2; subst q1
        have run : (Instr.lookup t (.map (some b)) y ok).run P w = .ok (match r' with | some (_, v) => (if ok then .tuple #[v, .bool true] else v) | none => (if ok then .tuple #[zv, .bool false] else zv)) w := by
          simp only [Instr.lookup, Sem.run_bind, run_underlying hu, Result.andThen_ok, Sem.run_pure, run_getObj_map h2, run_checkKey hf, hfk]
          cases r' with
          | none => simp only [Sem.run_bind, hzr, Result.andThen_ok, Sem.run_pure]
          | some p => obtain ⟨j, yv⟩ := p; cases ok <;> rfl
        refine .same H run ?_
        cases o with
        | none => cases r' with
          | none => simp only at hr; subst hr; exact okV_rep (ofZero_rep hzv)
          | some p => exact g2.elim
        | some p => cases r' with
          | none => exact g2.elim
          | some p' => simp only at hr; subst hr; exact okV_rep g2.2.2.1
      | mpD _ g => rw [h1] at g; cases g
    · cases he
  · cases he

/-! ### writing a map -/
def evMapUpd (h : List Ob) (kt : LK) (m k v : V) : Option (List Ob) :=
  match m with
  | .mp id => match h[id]? with
    | some (.map ents clock) => (findV kt k ents 0).map fun
      | some (i, _) => h.set id (.map (ents.set i (k, v, ((ents[i]?).map (·.2.2)).getD 0)) clock)
      | none => h.set id (.map (ents ++ [(k, v, clock)]) (clock + 1))
    | _ => none
  | _ => none

theorem mapUpd_good {P : Program} {L : Loc} {h h' : List Ob} {w : World} (H : HRel L h w) {t kT eT : TypeId} {kt : LK} (hu : P.underlying t = some (.map kT eT)) (hf : kt.fits P kT) {m k v : V} {x y u : Value}
    (rm : Rep L w m x) (rk : Rep L w k y) (rv : Rep L w v u) (he : evMapUpd h kt m k v = some h') : ∃ w', (Instr.mapUpdate t x y u).run P w = .ok () w' ∧ HRel L h' w' ∧ Fr (Own L) w w' := by
  obtain ⟨d, hd⟩ := fits_some hf
  unfold evMapUpd at he
  split at he
  · rename_i id
    split at he
    · rename_i ents clock hob
      have hid : id < h.length := (List.getElem?_eq_some_iff.1 hob).1
      obtain ⟨b, base, sz, mes, h1, h2, h3, h4⟩ := H.obs id _ hob
      have hbl := (Array.getElem?_eq_some_iff.1 h2).1
      simp only [Option.map_eq_some_iff] at he
      obtain ⟨o, ho, hr⟩ := he
      have her : EntsRep L w ents mes.toList := ⟨by simpa using h3, fun i k v t hi => by simpa using h4 i k v t hi⟩
      obtain ⟨r', g1, g2⟩ := findNow_spec (P := P) hf hd rk ents mes.toList 0 o her ho
      have hfk : ∀ w', (Instr.findKey kT y mes.toList : Sem _).run P w' = .ok r' w' := fun w' => run_findKey hd g1
      cases rm with
      | mp g =>
        rw [h1] at g; injection g with g; injection g with q1 q2; subst q1
        cases o with
        | none => cases r' with
          | some p => exact g2.elim
          | none =>
            simp only at hr; subst hr
            have hfr : Fr (Own L) w (E.put w b (.map (mes.push { key := y, val := u, born := clock }) (clock + 1))) := fr_putMap ⟨id, _, h1⟩ h2
            refine ⟨_, ?_, HRel.set H h1 hid hfr (fun k _ hk => put_other hk) ⟨b, base, sz, _, h1, put_same hbl, by simp [h3], fun a k' v' t' ha => ?_⟩, hfr⟩
            · simp only [Instr.mapUpdate, Sem.run_bind, run_underlying hu, Result.andThen_ok, run_getObj_map h2, run_checkKey hf, hfk, run_setObj_map h2]
            · by_cases c : a < ents.length
              · rw [List.getElem?_append_left c] at ha
                obtain ⟨e, p1, p2, p3, p4⟩ := h4 a k' v' t' ha
                exact ⟨e, by rw [Array.getElem?_push, if_neg (by omega)]; exact p1, H.step_rep p2 hfr (Ext.refl _ _), H.step_rep p3 hfr (Ext.refl _ _), p4⟩
              · rw [List.getElem?_append_right (by omega)] at ha
                have : a = ents.length := by
                  rcases Nat.lt_or_ge (a - ents.length) 1 with q | q
                  · omega
                  · rw [List.getElem?_eq_none (by simpa using q)] at ha; cases ha
                subst this
                simp at ha
                obtain ⟨rfl, rfl, rfl⟩ := ha
                exact ⟨⟨y, u, clock⟩, by rw [Array.getElem?_push, if_pos h3.symm], H.step_rep rk hfr (Ext.refl _ _), H.step_rep rv hfr (Ext.refl _ _), rfl⟩
        | some p => cases r' with
          | none => exact g2.elim
          | some p' =>
            obtain ⟨i, v0⟩ := p; obtain ⟨j, y0⟩ := p'
            obtain ⟨rfl, _, _, ⟨k0, t0, e1, e2⟩, ⟨e, e3, e4⟩⟩ := g2
            simp only [Nat.sub_zero] at e1 e3
            subst e2
            simp only at hr; subst hr
            have hil := (List.getElem?_eq_some_iff.1 e1).1
            have hme : mes[i]? = some e := by simpa using e3
            have hfr : Fr (Own L) w (E.put w b (.map (mes.modify i fun e => { e with key := y, val := u }) clock)) := fr_putMap ⟨id, _, h1⟩ h2
            refine ⟨_, ?_, HRel.set H h1 hid hfr (fun k _ hk => put_other hk) ⟨b, base, sz, _, h1, put_same hbl, by simp [h3], fun a k' v' t' ha => ?_⟩, hfr⟩
            · simp only [Instr.mapUpdate, Sem.run_bind, run_underlying hu, Result.andThen_ok, run_getObj_map h2, run_checkKey hf, hfk, Instr.keyThatStays, hme, Option.map_some, Option.getD_some, e4, if_true, Sem.run_pure, run_setObj_map h2]
            · by_cases c : a = i
              · subst c
                rw [List.getElem?_set_self hil] at ha
                injection ha with ha; injection ha with p1 p2; injection p2 with p2 p3; subst p1; subst p2
                obtain ⟨e', p1', p2', p3', p4'⟩ := h4 a _ _ _ e1
                rw [hme] at p1'; injection p1' with p1'; subst p1'
                refine ⟨{ e with key := y, val := u }, by rw [Array.getElem?_modify, if_pos rfl, hme]; rfl, H.step_rep rk hfr (Ext.refl _ _), H.step_rep rv hfr (Ext.refl _ _), ?_⟩
                rw [e1] at p3
                simpa [p4'] using p3
              · rw [List.getElem?_set_ne (fun q => c q.symm)] at ha
                obtain ⟨e', p1, p2, p3, p4⟩ := h4 a k' v' t' ha
                exact ⟨e', by rw [Array.getElem?_modify, if_neg (fun q => c q.symm)]; exact p1, H.step_rep p2 hfr (Ext.refl _ _), H.step_rep p3 hfr (Ext.refl _ _), p4⟩
      | mpD _ g => rw [h1] at g; cases g
    · cases he
  · cases he

end Go.Proofs.Ytdcdmpgigmhhpaa.E
