/- The layer E, part 14: the operations, with their types looked up ahead; what each comes to. No condition. -/
import Derived.Test.YtdcdmpgigmhhpaaE13
import Derived.Laws.Tables
import Derived.BigFrame
namespace Go.Proofs.Ytdcdmpgigmhhpaa.E
set_option linter.unusedSimpArgs false
set_option linter.unusedVariables false

inductive EOp where
  | mv (x : EO)
  | pick (c a b : EO)
  | alloc (arr : Bool) (z : V)
  | box (arr : Bool) (x : EO)
  | build (z : List V) (parts : List (Nat × Nat × EO))
  | bslice (sz : Nat) (z : V) (len : Nat) (parts : List (Nat × EO))
  | load1 (a : EO)
  | loadN (n : Nat) (a : EO)
  | store (n : Nat) (a x : EO)
  | nilck (x : EO)
  | bin (op : BinOp) (x y : EO)
  | eq (neg : Bool) (T : EqT) (x y : EO)
  | un (op : UnOp) (x : EO)
  | toInt (k : IntKind) (x : EO)
  | strId (x : EO)
  | toStr (x : EO)
  | toBytes (x : EO)
  | mkfn (f : FuncId) (caps : List EO)
  | mkslice (z : V) (bytes : Nat) (len cap : EO)
  | slcS (x : EO) (lo hi : Option EO)
  | slcL (sz : Nat) (x : EO) (lo hi mx : Option EO)
  | slcA (n sz : Nat) (x : EO) (lo hi : Option EO)
  | faddr (off : Nat) (x : EO)
  | field1 (off : Nat) (x : EO)
  | fieldN (off n : Nat) (x : EO)
  | iaddrA (n sz : Nat) (x i : EO)
  | iaddrL (sz : Nat) (x i : EO)
  | idxS (x i : EO)
  | ext (i : Nat) (x : EO)
  | lenS (x : EO)
  | lenL (x : EO)
  | app (sz bytes : Nat) (x y : EO)
  | copy (sz : Nat) (x y : EO)
  | minmax (mx : Bool) (x y : EO)
  | mkmap
  | lenM (x : EO)
  | lookup (kt : LK) (z : V) (ok : Bool) (m k : EO)
  | mapupd (kt : LK) (m k v : EO)
  | delete (kt : LK) (m k : EO)
  | appZ (sz bytes : Nat) (z : V) (x n : EO)
  | rangeS (x : EO)
  | rangeM (x : EO)
  | nextS (x : EO)
  | idxA (n sz : Nat) (agg : Bool) (x i : EO)
  | runeStr (x : EO)
  | capL (x : EO)
  | strish (x : EO)
  | cmpB (x y : EO)
  | idxB (x y : EO)
  | clearL (sz : Nat) (z : V) (x : EO)
  | entry (x : EO)
  deriving Inhabited, Repr

/-- What an operation comes to: a value (undef where it has none), and memory. -/
def GoodOp (P : Program) (L : Loc) (w : World) (s : Sem Next) (v : V) (h' : List Ob) : Prop :=
  ∃ x w' L', (s.run P w = .ok (.value x) w' ∨ (s.run P w = .ok .skip w' ∧ x = undef)) ∧ Rep L' w' v x ∧ HRel L' h' w' ∧ Fr (Own L) w w' ∧ Ext L w L'

theorem Good.op {P : Program} {L : Loc} {w : World} {s : Sem Value} {v : V} {h' : List Ob} (g : Good P L w s v h') : GoodOp P L w (do pure (.value (← s))) v h' := by
  obtain ⟨x, w', L', h1, rest⟩ := g
  exact ⟨x, w', L', .inl (by simp [h1]), rest⟩

theorem undef_rep {L : Loc} {w : World} : Rep L w (.tup []) undef := .tup #[] rfl (fun k c hk => by simp at hk)

theorem good_skip {P : Program} {L : Loc} {h' : List Ob} {w : World} {s : Sem Unit} (g : ∃ w', s.run P w = .ok () w' ∧ HRel L h' w' ∧ Fr (Own L) w w') : GoodOp P L w (do s; pure .skip) (.tup []) h' := by
  obtain ⟨w', h1, h2, h3⟩ := g
  exact ⟨undef, w', L, .inr ⟨by simp [h1], rfl⟩, undef_rep, h2, h3, Ext.refl L w⟩

theorem GoodOp.same {P : Program} {L : Loc} {h : List Ob} {w : World} {s : Sem Next} {v : V} {x : Value} (H : HRel L h w) (hs : s.run P w = .ok (.value x) w) (r : Rep L w v x) : GoodOp P L w s v h :=
  ⟨x, w, L, .inl hs, r, H, Fr.refl _ _, Ext.refl _ _⟩

/-! ### What else is asked of the single operations -/
def evUn (op : UnOp) (x : V) : Option V :=
  match op, x with
  | .neg, .int k n => some (.int k (k.wrap (0 - n)))
  | .xor, .int k n => some (.int k (bits .xor k (if k.signed then -1 else k.max) n))
  | .not, .bool b => some (.bool (!b))
  | _, _ => none

theorem un_good {P : Program} {L : Loc} {h : List Ob} {w : World} (H : HRel L h w) {op : UnOp} {x v : V} {a : Value} (ha : Rep L w x a) (he : evUn op x = some v) : Good P L w (Op.unary op a) v h := by
  unfold evUn at he
  split at he <;> first | cases he; done | skip
  all_goals injection he with he; subst he; cases ha
  · exact .same H (by simp [Op.unary, Op.intArith]) (.int _ _)
  · exact .same H (by simp only [Op.unary, intBits_xor, Sem.run_pure]) (.int _ _)
  · exact .same H (by simp [Op.unary]) (.bool _)

def evNilck (h : List Ob) : V → Option V
  | .ptr id i j => if aliveB h id then some (.ptr id i j) else none
  | .ref e j => some (.ref e j)
  | .fn f c => some (.fn f c)
  | _ => none

def evMinmax (mx : Bool) : V → V → Option V
  | .int k a, .int _ b => some (.int k (if mx then (if b > a then b else a) else (if b < a then b else a)))
  | _, _ => none

theorem minmax_good {P : Program} {L : Loc} {h : List Ob} {w : World} (H : HRel L h w) {mx : Bool} {ts : Array TypeId} {ty : TypeId} {x y v : V} {a b : Value} (ha : Rep L w x a) (hb : Rep L w y b) (he : evMinmax mx x y = some v) :
    Good P L w (if mx then Builtin.max_ ts ty #[a, b] else Builtin.min_ ts ty #[a, b]) v h := by
  cases x <;> cases y <;> simp only [evMinmax] at he <;> first | (cases he; done) | skip
  injection he with he; subst he
  cases ha; cases hb
  cases mx with
  | true => exact .same H (by simp [Builtin.max_, Builtin.max2]) (.int _ _)
  | false => exact .same H (by simp [Builtin.min_, Builtin.min2]) (.int _ _)

/-- A literal slice. -/
def setAll (es : List V) : List (Nat × V) → List V
  | [] => es
  | (i, v) :: ps => setAll (es.set i v) ps

def evBslice (h : List Ob) (sz : Nat) (z : V) (len : Nat) (ps : List (Nat × V)) : Option (V × List Ob) :=
  if len * sz ≤ 16777216 ∧ ps.all (fun p => p.1 < len && p.2.cells.length == sz && p.2.cells.all V.scalar && (match p.2 with | .tup _ | .junk => false | _ => true)) then
    some (.hsl h.length 0 len, h ++ [.row (setAll (List.replicate len z) ps) sz]) else none

def evLenM (h : List Ob) : V → Option Nat
  | .nilm => some 0
  | .mp id => match h[id]? with
    | some (.map ents _) => some ents.length
    | _ => none
  | _ => none

theorem lenM_good {P : Program} {L : Loc} {h : List Ob} {w : World} (H : HRel L h w) {t kT eT ty : TypeId} {ts : Array TypeId} {v : V} {x : Value} {n : Nat} (hu : P.underlying t = some (.map kT eT)) (ht : ts[0]? = some t) (r : Rep L w v x) (he : evLenM h v = some n) :
    Good P L w (Builtin.len_ ts ty #[x]) (.int .i64 n) h := by
  unfold evLenM at he
  split at he
  · injection he with he; subst he; cases r
    refine .same H (x := .int .i64 0) ?_ (.int _ _)
    unfold Builtin.len_
    rw [ht]
    simp only [List.getElem?_toArray, List.getElem?_cons_zero, Sem.run_bind, run_underlying hu, Result.andThen_ok, Sem.run_pure, goInt]
  · rename_i id
    split at he
    · rename_i ents clock hob
      injection he with he; subst he
      obtain ⟨b, base, sz, mes, h1, h2, h3, h4⟩ := H.obs id _ hob
      cases r with
      | mp g =>
        rw [h1] at g; injection g with g; injection g with q1 q2; subst q1
        refine .same H (x := .int .i64 ents.length) ?_ (.int _ _)
        unfold Builtin.len_
        rw [ht]
        simp only [List.getElem?_toArray, List.getElem?_cons_zero, Sem.run_bind, run_underlying hu, Result.andThen_ok, run_getObj_map h2, Sem.run_pure, goInt, h3]
      | mpD _ g => rw [h1] at g; cases g
    · cases he
  · cases he

theorem mkmap_good {P : Program} {L : Loc} {h : List Ob} {w : World} (H : HRel L h w) {t : TypeId} {r : Option Value} (hr : r = none ∨ (∃ kT eT k n, P.underlying t = some (.map kT eT) ∧ r = some (.int k n))) :
    Good P L w (Instr.makeMap t r) (.mp h.length) (h ++ [.map [] 0]) := by
  have hrun : (Instr.makeMap t r).run P w = .ok (.map (some w.heap.size)) { w with heap := w.heap.push (.map #[] 0) } := by
    rcases hr with rfl | ⟨kT, eT, k, n, hu, rfl⟩
    · simp only [Instr.makeMap, Sem.run_bind, run_newObj, Result.andThen_ok, Sem.run_pure]
    · simp only [Instr.makeMap, Sem.run_bind, run_underlying hu, asInt, asIntOf, run_newObj, Result.andThen_ok, Sem.run_pure]
  have fr := fr_alloc (Own L) w (.map #[] 0)
  have ex := ext_push L w w.heap.size 0 1 (Nat.le_refl _)
  refine ⟨_, _, L.push (w.heap.size, 0, 1), hrun, ?_, HRel.push H _ _ 0 1 ⟨w.heap.size, 0, 1, #[], L.push_new _, by show (w.heap.push _)[w.heap.size]? = _; simp, rfl, fun i k v t hi => by simp at hi⟩, fr, ex⟩
  have := Rep.mp (w := { w with heap := w.heap.push (.map #[] 0) }) (L.push_new (w.heap.size, 0, 1))
  rw [H.len] at this
  exact this

def evDelete (h : List Ob) (kt : LK) (m k : V) : Option (List Ob) :=
  match m with
  | .nilm => some h
  | .mp id => match h[id]? with
    | some (.map ents clock) => (findV kt k ents 0).map fun
      | some (i, _) => h.set id (.map (ents.eraseIdx i) clock)
      | none => h.set id (.map ents clock)
    | _ => none
  | _ => none

theorem delete_good {P : Program} {L : Loc} {h h' : List Ob} {w : World} (H : HRel L h w) {t kT eT ty : TypeId} {ts : Array TypeId} {kt : LK} (ht : ts[0]? = some t) (hu : P.underlying t = some (.map kT eT)) (hf : kt.fits P kT) {m k : V} {x y : Value}
    (rm : Rep L w m x) (rk : Rep L w k y) (he : evDelete h kt m k = some h') : Good P L w (Builtin.delete_ ts ty #[x, y]) (.tup []) h' := by
  obtain ⟨d, hd⟩ := fits_some hf
  unfold evDelete at he
  split at he
  · injection he with he; subst he
    cases rm
    refine .same H (x := undef) ?_ undef_rep
    unfold Builtin.delete_
    rw [ht]
    simp only [List.getElem?_toArray, List.getElem?_cons_zero, List.getElem?_cons_succ, Sem.run_bind, run_underlying hu, Result.andThen_ok, run_checkKey hf, Sem.run_pure]
    rfl
  · rename_i id
    split at he
    · rename_i ents clock hob
      have hid : id < h.length := (List.getElem?_eq_some_iff.1 hob).1
      obtain ⟨b, base, sz, mes, h1, h2, h3, h4⟩ := H.obs id _ hob
      have hbl := (Array.getElem?_eq_some_iff.1 h2).1
      simp only [Option.map_eq_some_iff] at he
      obtain ⟨o, ho, hr⟩ := he
      have her : EntsRep L w ents mes.toList := ⟨by simpa using h3, fun i k v t hi => by simpa using h4 i k v t hi⟩
      obtain ⟨r', g1, g2⟩ := findNow_spec (P := P) hf hd rk ents mes.toList 0 o her ho
      have hfk : ∀ w', (Instr.findKey kT y mes.toList : Sem _).run P w' = .ok r' w' := fun w' => run_findKey hd g1
      cases rm with
      | mp g =>
        rw [h1] at g; injection g with g; injection g with q1 q2; subst q1
        cases o with
        | none => cases r' with
          | some p => exact g2.elim
          | none =>
            simp only at hr; subst hr
            have hfr : Fr (Own L) w (E.put w b (.map mes clock)) := fr_putMap ⟨id, _, h1⟩ h2
            refine ⟨undef, _, L, ?_, undef_rep, HRel.set H h1 hid hfr (fun k _ hk => put_other hk) ⟨b, base, sz, _, h1, put_same hbl, h3, fun a k' v' t' ha => ?_⟩, hfr, Ext.refl _ _⟩
            · unfold Builtin.delete_
              rw [ht]
              simp only [List.getElem?_toArray, List.getElem?_cons_zero, List.getElem?_cons_succ, Sem.run_bind, run_underlying hu, Result.andThen_ok, run_getObj_map h2, run_checkKey hf, hfk, run_setObj_map h2, Sem.run_pure]
              rfl
            · obtain ⟨e, p1, p2, p3, p4⟩ := h4 a k' v' t' ha
              exact ⟨e, p1, H.step_rep p2 hfr (Ext.refl _ _), H.step_rep p3 hfr (Ext.refl _ _), p4⟩
        | some p => cases r' with
          | none => exact g2.elim
          | some p' =>
            obtain ⟨i, v0⟩ := p; obtain ⟨j, y0⟩ := p'
            obtain ⟨rfl, _, _, ⟨k0, t0, e1, e2⟩, _⟩ := g2
            simp only [Nat.sub_zero] at e1
            simp only at hr; subst hr
            have hil := (List.getElem?_eq_some_iff.1 e1).1
            have hfr : Fr (Own L) w (E.put w b (.map (mes.eraseIdxIfInBounds i) clock)) := fr_putMap ⟨id, _, h1⟩ h2
            have hsz : i < mes.size := by omega
            refine ⟨undef, _, L, ?_, undef_rep, HRel.set H h1 hid hfr (fun k _ hk => put_other hk) ⟨b, base, sz, _, h1, put_same hbl, ?_, fun a k' v' t' ha => ?_⟩, hfr, Ext.refl _ _⟩
            · unfold Builtin.delete_
              rw [ht]
              simp only [List.getElem?_toArray, List.getElem?_cons_zero, List.getElem?_cons_succ, Sem.run_bind, run_underlying hu, Result.andThen_ok, run_getObj_map h2, run_checkKey hf, hfk, run_setObj_map h2, Sem.run_pure]
              rfl
            · simp [Array.eraseIdxIfInBounds, hsz, List.length_eraseIdx, hil, h3]
            · rw [List.getElem?_eraseIdx] at ha
              have key : ∀ q : Nat, ents[q]? = some (k', v', t') → (mes.eraseIdxIfInBounds i)[a]? = mes[q]? → ∃ e, (mes.eraseIdxIfInBounds i)[a]? = some e ∧ Rep L (E.put w b (.map (mes.eraseIdxIfInBounds i) clock)) k' e.key ∧ Rep L (E.put w b (.map (mes.eraseIdxIfInBounds i) clock)) v' e.val ∧ e.born = t' := by
                intro q hq hm
                obtain ⟨e, p1, p2, p3, p4⟩ := h4 q k' v' t' hq
                exact ⟨e, hm.trans p1, H.step_rep p2 hfr (Ext.refl _ _), H.step_rep p3 hfr (Ext.refl _ _), p4⟩
              have hme : (mes.eraseIdxIfInBounds i)[a]? = if a < i then mes[a]? else mes[a + 1]? := by
                simp only [Array.eraseIdxIfInBounds, hsz, dif_pos, Array.getElem?_eraseIdx]
              split at ha
              · rename_i c; exact key a ha (by rw [hme, if_pos c])
              · rename_i c; exact key (a + 1) ha (by rw [hme, if_neg c])
      | mpD _ g => rw [h1] at g; cases g
    · cases he
  · cases he

end Go.Proofs.Ytdcdmpgigmhhpaa.E
