/- The layer E, part 31: evaluation with what is known of calls, with answers, and with more than one outcome where a map's order is open. No condition. -/
import Derived.Test.YtdcdmpgigmhhpaaE28
namespace Go.Proofs.Ytdcdmpgigmhhpaa.E
set_option linter.unusedSimpArgs false
set_option linter.unusedVariables false

/-! ### What the temporaries hold, as a tree -/
inductive Tr where
  | nil
  | node (v : V) (l r : Tr)

def Tr.get : Tr → Nat → V
  | .nil, _ => .tup []
  | .node v l r, i => match i.beq 0 with
    | true => v
    | false => match (i % 2).beq 1 with
      | true => l.get (i / 2)
      | false => r.get (i / 2 - 1)

def Tr.single : Nat → Nat → V → Tr
  | 0, _, _ => .nil
  | f + 1, i, x => match i.beq 0 with
    | true => .node x .nil .nil
    | false => match (i % 2).beq 1 with
      | true => .node (.tup []) (Tr.single f (i / 2) x) .nil
      | false => .node (.tup []) .nil (Tr.single f (i / 2 - 1) x)

def Tr.set : Tr → Nat → V → Tr
  | .nil, i, x => Tr.single (i + 1) i x
  | .node v l r, i, x => match i.beq 0 with
    | true => .node x l r
    | false => match (i % 2).beq 1 with
      | true => .node v (l.set (i / 2) x) r
      | false => .node v l (r.set (i / 2 - 1) x)

theorem beqT {a b : Nat} : (a.beq b = true) ↔ a = b := Nat.beq_eq ▸ Iff.rfl
theorem beqF {a b : Nat} : (a.beq b = false) ↔ a ≠ b := by rw [← Bool.not_eq_true]; exact not_congr beqT

theorem Tr.get_single : ∀ (f i : Nat) (x : V) (j : Nat), i < f → (Tr.single f i x).get j = if j = i then x else .tup []
  | 0, i, x, j, h => by omega
  | f + 1, i, x, j, h => by
    simp only [Tr.single]
    split
    · rename_i h0
      rw [beqT] at h0
      simp only [Tr.get]
      split
      · rename_i h1; rw [beqT] at h1; rw [if_pos (by omega)]
      · rename_i h1; rw [beqF] at h1; rw [if_neg (by omega)]; split <;> rfl
    · rename_i h0
      rw [beqF] at h0
      split
      · rename_i h2
        rw [beqT] at h2
        simp only [Tr.get]
        split
        · rename_i h1; rw [beqT] at h1; rw [if_neg (by omega)]
        · rename_i h1; rw [beqF] at h1
          split
          · rename_i h3; rw [beqT] at h3
            rw [Tr.get_single f _ x _ (by omega)]
            by_cases q : j = i
            · rw [if_pos q, if_pos (by omega)]
            · rw [if_neg q, if_neg (by omega)]
          · rename_i h3; rw [beqF] at h3; rw [if_neg (by intro q; subst q; exact h3 h2)]
      · rename_i h2
        rw [beqF] at h2
        simp only [Tr.get]
        split
        · rename_i h1; rw [beqT] at h1; rw [if_neg (by omega)]
        · rename_i h1; rw [beqF] at h1
          split
          · rename_i h3; rw [beqT] at h3; rw [if_neg (by intro q; subst q; exact h2 h3)]
          · rename_i h3; rw [beqF] at h3
            rw [Tr.get_single f _ x _ (by omega)]
            by_cases q : j = i
            · rw [if_pos q, if_pos (by omega)]
            · rw [if_neg q, if_neg (by omega)]

theorem Tr.get_set : ∀ (t : Tr) (i : Nat) (x : V) (j : Nat), (t.set i x).get j = if j = i then x else t.get j
  | .nil, i, x, j => by simp only [Tr.set, Tr.get_single (i + 1) i x j (by omega), Tr.get]
  | .node v l r, i, x, j => by
    simp only [Tr.set]
    split
    · rename_i h0
      rw [beqT] at h0
      simp only [Tr.get]
      split
      · rename_i h1; rw [beqT] at h1; rw [if_pos (by omega)]
      · rename_i h1; rw [beqF] at h1; rw [if_neg (by omega)]
    · rename_i h0
      rw [beqF] at h0
      split
      · rename_i h2
        rw [beqT] at h2
        simp only [Tr.get]
        split
        · rename_i h1; rw [beqT] at h1; rw [if_neg (by omega)]
        · rename_i h1; rw [beqF] at h1
          split
          · rename_i h3; rw [beqT] at h3
            rw [Tr.get_set l]
            by_cases q : j = i
            · rw [if_pos q, if_pos (by omega)]
            · rw [if_neg q, if_neg (by omega)]
          · rename_i h3; rw [beqF] at h3; rw [if_neg (by intro q; subst q; exact h3 h2)]
      · rename_i h2
        rw [beqF] at h2
        simp only [Tr.get]
        split
        · rename_i h1; rw [beqT] at h1; rw [if_neg (by omega)]
        · rename_i h1; rw [beqF] at h1
          split
          · rename_i h3; rw [beqT] at h3; rw [if_neg (by intro q; subst q; exact h2 h3)]
          · rename_i h3; rw [beqF] at h3
            rw [Tr.get_set r]
            by_cases q : j = i
            · rw [if_pos q, if_pos (by omega)]
            · rw [if_neg q, if_neg (by omega)]

theorem Tr.set_eq (t : Tr) (i : Nat) (x : V) : (t.set i x).get = upd t.get i x := by
  funext j
  rw [Tr.get_set]; rfl

def putE (E : Tr) (dst : Option Nat) (v : V) : Tr := match dst with
  | some d => E.set d v
  | none => E

theorem putE_eq (E : Tr) (dst : Option Nat) (v : V) : (putE E dst v).get = putT E.get dst v := by
  cases dst with
  | none => rfl
  | some d => exact Tr.set_eq E d v

def envE : List V → Nat → Tr → Tr
  | [], _, E => E
  | v :: vs, i, E => envE vs (i + 1) (E.set i v)

theorem envE_get : ∀ (vs : List V) (i : Nat) (E : Tr) (j : Nat), (envE vs i E).get j = if i ≤ j ∧ j < i + vs.length then vs.getD (j - i) (.tup []) else E.get j
  | [], i, E, j => by simp only [envE, List.length_nil]; rw [if_neg (by omega)]
  | v :: vs, i, E, j => by
    simp only [envE, List.length_cons]
    rw [envE_get vs]
    by_cases q : j = i
    · subst q
      rw [if_neg (by omega), if_pos (by omega), Tr.get_set, if_pos rfl]
      simp
    · by_cases q2 : i ≤ j ∧ j < i + (vs.length + 1)
      · rw [if_pos q2, if_pos (by omega)]
        rw [show j - i = (j - (i + 1)) + 1 by omega]; rfl
      · rw [if_neg q2, if_neg (by omega), Tr.get_set, if_neg q]

theorem envE_eq (args : List V) : (envE args 0 .nil).get = env0 args := by
  funext j
  rw [envE_get]
  unfold env0
  split
  · rw [Nat.sub_zero]
  · rename_i h
    rw [List.getD_eq_getElem?_getD, List.getElem?_eq_none (by omega)]
    rfl

/-! ### The operations once more, each by itself -/
def x_mv (x : EO) (t : Nat → V) (h : List Ob) : Option (V × List Ob) := some (x.get t, h)
def x_pick (c : EO) (a : EO) (b : EO) (t : Nat → V) (h : List Ob) : Option (V × List Ob) := match c.get t with
  | .bool q => some (if q then a.get t else b.get t, h)
  | _ => none
def x_alloc (arr : Bool) (z : V) (t : Nat → V) (h : List Ob) : Option (V × List Ob) := evBox arr h z
def x_box (arr : Bool) (x : EO) (t : Nat → V) (h : List Ob) : Option (V × List Ob) := evBox arr h (x.get t)
def x_build (z : List V) (ps : List (Nat × Nat × EO)) (t : Nat → V) (h : List Ob) : Option (V × List Ob) := (fillV z (ps.map fun p => (p.1, p.2.1, p.2.2.get t))).map fun cs => (.agg cs, h)
def x_bslice (sz : Nat) (z : V) (len : Nat) (ps : List (Nat × EO)) (t : Nat → V) (h : List Ob) : Option (V × List Ob) := evBslice' h sz z len (ps.map fun p => (p.1, p.2.get t))
def x_load1 (a : EO) (t : Nat → V) (h : List Ob) : Option (V × List Ob) := (evLoad1 h (a.get t)).map fun v => (v, h)
def x_loadN (n : Nat) (a : EO) (t : Nat → V) (h : List Ob) : Option (V × List Ob) := (evLoadN h n (a.get t)).map fun v => (v, h)
def x_store (n : Nat) (a : EO) (x : EO) (t : Nat → V) (h : List Ob) : Option (V × List Ob) := (evStore h n (a.get t) (x.get t)).map fun h' => (.tup [], h')
def x_nilck (x : EO) (t : Nat → V) (h : List Ob) : Option (V × List Ob) := (evNilck h (x.get t)).map fun v => (v, h)
def x_bin (op : BinOp) (x : EO) (y : EO) (t : Nat → V) (h : List Ob) : Option (V × List Ob) := (evBin op (x.get t) (y.get t)).map fun v => (v, h)
def x_eq (neg : Bool) (T : EqT) (x : EO) (y : EO) (t : Nat → V) (h : List Ob) : Option (V × List Ob) := (evEq h T (x.get t) (y.get t)).map fun b => (.bool (if neg then !b else b), h)
def x_un (op : UnOp) (x : EO) (t : Nat → V) (h : List Ob) : Option (V × List Ob) := (evUn op (x.get t)).map fun v => (v, h)
def x_toInt (k : IntKind) (x : EO) (t : Nat → V) (h : List Ob) : Option (V × List Ob) := match x.get t with
  | .int _ m => some (.int k (k.wrap m), h)
  | _ => none
def x_strId (x : EO) (t : Nat → V) (h : List Ob) : Option (V × List Ob) := match x.get t with
  | .str l => some (.str l, h)
  | _ => none
def x_toStr (x : EO) (t : Nat → V) (h : List Ob) : Option (V × List Ob) := (evToStr h (x.get t)).map fun v => (v, h)
def x_toBytes (x : EO) (t : Nat → V) (h : List Ob) : Option (V × List Ob) := match x.get t with
  | .str l => some (evToBytes h l)
  | _ => none
def x_mkfn (f : FuncId) (caps : List EO) (t : Nat → V) (h : List Ob) : Option (V × List Ob) := some (.fn f (caps.map (·.get t)), h)
def x_mkslice (z : V) (b : Nat) (l : EO) (c : EO) (t : Nat → V) (h : List Ob) : Option (V × List Ob) := match l.get t, c.get t with
  | .int _ l, .int _ c => evMake h z b l c
  | _, _ => none
def x_slcS (x : EO) (lo : Option EO) (hi : Option EO) (t : Nat → V) (h : List Ob) : Option (V × List Ob) := match x.get t with
  | .str l => (evSlcS l (lo.map (·.get t)) (hi.map (·.get t))).map fun v => (v, h)
  | _ => none
def x_slcL (sz : Nat) (x : EO) (lo : Option EO) (hi : Option EO) (mx : Option EO) (t : Nat → V) (h : List Ob) : Option (V × List Ob) := match x.get t with
  | .hsl id off len => match h[id]? with
    | some (.row _ s) => if s = sz then (evSlcL h (.hsl id off len) (lo.map (·.get t)) (hi.map (·.get t)) (mx.map (·.get t))).map fun v => (v, h) else none
    | _ => none
  | .sl es => if headOk sz es then (evSlcL h (.sl es) (lo.map (·.get t)) (hi.map (·.get t)) (mx.map (·.get t))).map fun v => (v, h) else none
  | v => (evSlcL h v (lo.map (·.get t)) (hi.map (·.get t)) (mx.map (·.get t))).map fun v => (v, h)
def x_slcA (n : Nat) (sz : Nat) (x : EO) (lo : Option EO) (hi : Option EO) (t : Nat → V) (h : List Ob) : Option (V × List Ob) := (evSlcA h n sz (x.get t) (lo.map (·.get t)) (hi.map (·.get t))).map fun v => (v, h)
def x_faddr (off : Nat) (x : EO) (t : Nat → V) (h : List Ob) : Option (V × List Ob) := match x.get t with
  | .ptr id i j => if aliveB h id then some (.ptr id i (j + off), h) else none
  | .ref e j => some (.ref e (j + off), h)
  | _ => none
def x_field1 (off : Nat) (x : EO) (t : Nat → V) (h : List Ob) : Option (V × List Ob) := (evField1 off (x.get t)).map fun v => (v, h)
def x_fieldN (off : Nat) (n : Nat) (x : EO) (t : Nat → V) (h : List Ob) : Option (V × List Ob) := (evFieldN off n (x.get t)).map fun v => (v, h)
def x_iaddrA (n : Nat) (sz : Nat) (x : EO) (i : EO) (t : Nat → V) (h : List Ob) : Option (V × List Ob) := match i.get t with
  | .int _ m => (evIaddrA h n sz (x.get t) m).map fun v => (v, h)
  | _ => none
def x_iaddrL (sz : Nat) (x : EO) (i : EO) (t : Nat → V) (h : List Ob) : Option (V × List Ob) := match i.get t with
  | .int _ m => (evIaddrL h sz (x.get t) m).map fun v => (v, h)
  | _ => none
def x_idxS (x : EO) (i : EO) (t : Nat → V) (h : List Ob) : Option (V × List Ob) := match x.get t, i.get t with
  | .str l, .int _ m => (evIdxS l m).map fun v => (v, h)
  | _, _ => none
def x_ext (i : Nat) (x : EO) (t : Nat → V) (h : List Ob) : Option (V × List Ob) := (evExt i (x.get t)).map fun v => (v, h)
def x_lenS (x : EO) (t : Nat → V) (h : List Ob) : Option (V × List Ob) := match x.get t with
  | .str l => some (.int .i64 l.length, h)
  | _ => none
def x_lenL (x : EO) (t : Nat → V) (h : List Ob) : Option (V × List Ob) := (evLenL h (x.get t)).map fun (m : Nat) => ((.int .i64 m : V), h)
def x_app (sz : Nat) (bytes : Nat) (x : EO) (y : EO) (t : Nat → V) (h : List Ob) : Option (V × List Ob) := (conts h sz (y.get t)).bind fun es => evApp h sz bytes (x.get t) es
def x_copy (sz : Nat) (x : EO) (y : EO) (t : Nat → V) (h : List Ob) : Option (V × List Ob) := (conts h sz (y.get t)).bind fun es => evCopy h sz (x.get t) es
def x_minmax (mx : Bool) (x : EO) (y : EO) (t : Nat → V) (h : List Ob) : Option (V × List Ob) := (evMinmax mx (x.get t) (y.get t)).map fun v => (v, h)
def x_mkmap  (t : Nat → V) (h : List Ob) : Option (V × List Ob) := some (.mp h.length, h ++ [.map [] 0])
def x_lenM (x : EO) (t : Nat → V) (h : List Ob) : Option (V × List Ob) := (evLenM h (x.get t)).map fun (m : Nat) => ((.int .i64 m : V), h)
def x_lookup (kt : LK) (z : V) (ok : Bool) (m : EO) (k : EO) (t : Nat → V) (h : List Ob) : Option (V × List Ob) := (evLookup h kt z ok (m.get t) (k.get t)).map fun v => (v, h)
def x_mapupd (kt : LK) (m : EO) (k : EO) (v : EO) (t : Nat → V) (h : List Ob) : Option (V × List Ob) := (evMapUpd h kt (m.get t) (k.get t) (v.get t)).map fun h' => (.tup [], h')
def x_delete (kt : LK) (m : EO) (k : EO) (t : Nat → V) (h : List Ob) : Option (V × List Ob) := (evDelete h kt (m.get t) (k.get t)).map fun h' => (.tup [], h')
def x_capL (x : EO) (t : Nat → V) (h : List Ob) : Option (V × List Ob) := (evCap (x.get t)).map fun (m : Nat) => ((.int .i64 m : V), h)
def x_appZ (_ : Nat) (_ : Nat) (_ : V) (x : EO) (n : EO) (t : Nat → V) (h : List Ob) : Option (V × List Ob) := match n.get t with
  | .int _ m => evAppZ h (x.get t) m
  | _ => none
def x_strish (x : EO) (t : Nat → V) (h : List Ob) : Option (V × List Ob) := (evStrish h (x.get t)).map fun v => (v, h)
def x_rangeS (x : EO) (t : Nat → V) (h : List Ob) : Option (V × List Ob) := evRangeS h (x.get t)
def x_rangeM (x : EO) (t : Nat → V) (h : List Ob) : Option (V × List Ob) := evRangeM h (x.get t)
def x_entry (x : EO) (t : Nat → V) (h : List Ob) : Option (V × List Ob) := (evEntry h (x.get t)).map fun v => (v, h)
def x_cmpB (x : EO) (y : EO) (t : Nat → V) (h : List Ob) : Option (V × List Ob) := match evBytes h (x.get t), evBytes h (y.get t) with
  | some l, some m => some (.int .i64 (Lib.compareBytes l m), h)
  | _, _ => none
def x_idxB (x : EO) (c : EO) (t : Nat → V) (h : List Ob) : Option (V × List Ob) := match evBytes h (x.get t), c.get t with
  | some l, .int .u8 c => some (.int .i64 (Lib.indexByte l c.toNat.toUInt8), h)
  | _, _ => none
def x_nextS (x : EO) (t : Nat → V) (h : List Ob) : Option (V × List Ob) := evNextS h (x.get t)

def evOq (eo : EOp) (t : Nat → V) (h : List Ob) : Option (V × List Ob) :=
  match eo with
  | .mv a0 => x_mv a0 t h
  | .pick a0 a1 a2 => x_pick a0 a1 a2 t h
  | .alloc a0 a1 => x_alloc a0 a1 t h
  | .box a0 a1 => x_box a0 a1 t h
  | .build a0 a1 => x_build a0 a1 t h
  | .bslice a0 a1 a2 a3 => x_bslice a0 a1 a2 a3 t h
  | .load1 a0 => x_load1 a0 t h
  | .loadN a0 a1 => x_loadN a0 a1 t h
  | .store a0 a1 a2 => x_store a0 a1 a2 t h
  | .nilck a0 => x_nilck a0 t h
  | .bin a0 a1 a2 => x_bin a0 a1 a2 t h
  | .eq a0 a1 a2 a3 => x_eq a0 a1 a2 a3 t h
  | .un a0 a1 => x_un a0 a1 t h
  | .toInt a0 a1 => x_toInt a0 a1 t h
  | .strId a0 => x_strId a0 t h
  | .toStr a0 => x_toStr a0 t h
  | .toBytes a0 => x_toBytes a0 t h
  | .mkfn a0 a1 => x_mkfn a0 a1 t h
  | .mkslice a0 a1 a2 a3 => x_mkslice a0 a1 a2 a3 t h
  | .slcS a0 a1 a2 => x_slcS a0 a1 a2 t h
  | .slcL a0 a1 a2 a3 a4 => x_slcL a0 a1 a2 a3 a4 t h
  | .slcA a0 a1 a2 a3 a4 => x_slcA a0 a1 a2 a3 a4 t h
  | .faddr a0 a1 => x_faddr a0 a1 t h
  | .field1 a0 a1 => x_field1 a0 a1 t h
  | .fieldN a0 a1 a2 => x_fieldN a0 a1 a2 t h
  | .iaddrA a0 a1 a2 a3 => x_iaddrA a0 a1 a2 a3 t h
  | .iaddrL a0 a1 a2 => x_iaddrL a0 a1 a2 t h
  | .idxS a0 a1 => x_idxS a0 a1 t h
  | .ext a0 a1 => x_ext a0 a1 t h
  | .lenS a0 => x_lenS a0 t h
  | .lenL a0 => x_lenL a0 t h
  | .app a0 a1 a2 a3 => x_app a0 a1 a2 a3 t h
  | .copy a0 a1 a2 => x_copy a0 a1 a2 t h
  | .minmax a0 a1 a2 => x_minmax a0 a1 a2 t h
  | .mkmap  => x_mkmap  t h
  | .lenM a0 => x_lenM a0 t h
  | .lookup a0 a1 a2 a3 a4 => x_lookup a0 a1 a2 a3 a4 t h
  | .mapupd a0 a1 a2 a3 => x_mapupd a0 a1 a2 a3 t h
  | .delete a0 a1 a2 => x_delete a0 a1 a2 t h
  | .capL a0 => x_capL a0 t h
  | .appZ a0 a1 a2 a3 a4 => x_appZ a0 a1 a2 a3 a4 t h
  | .strish a0 => x_strish a0 t h
  | .rangeS a0 => x_rangeS a0 t h
  | .rangeM a0 => x_rangeM a0 t h
  | .entry a0 => x_entry a0 t h
  | .cmpB a0 a1 => x_cmpB a0 a1 t h
  | .idxB a0 a1 => x_idxB a0 a1 t h
  | .nextS a0 => x_nextS a0 t h
  | _ => none

theorem evOq_eq (eo : EOp) (t : Nat → V) (h : List Ob) : evOq eo t h = evOp eo t h := by cases eo <;> rfl

/-! ### The evaluation -/
abbrev CallX := FuncId → List V → List Ob → Oc → Option (List (V × List Ob) × Oc)

def bindX {α β : Type} (k : α → Oc → Option (List β × Oc)) : List α → Oc → Option (List β × Oc)
  | [], o => some ([], o)
  | a :: as, o => match as with
    | [] => k a o
    | _ => match k a o with
      | some (bs, o') => match bindX k as o' with
        | some (cs, o'') => some (bs ++ cs, o'')
        | none => none
      | none => none

/-- A comparison that is answered. -/
def evAsk (e : EOp) (E : Tr) (h : List Ob) (o : Oc) : Option (List (V × List Ob) × Oc) := match e with
  | .bin op x y => match isCmp op, o.left with
    | true, b :: bs => some ([(.bool b, h)], ⟨bs, (evBin op (x.get E.get) (y.get E.get), b) :: o.asked⟩)
    | true, [] => none
    | false, _ => match evOp (.bin op x y) E.get h with
      | some p => some ([p], o)
      | none => none
  | e => match evOp e E.get h with
    | some p => some ([p], o)
    | none => none

def evAX (F : CallX) (ask : Bool) (x : EA) (E : Tr) (h : List Ob) (o : Oc) : Option (List (V × List Ob) × Oc) := match x with
  | .op e => match ask with
    | true => evAsk e E h o
    | false => match evOq e E.get h with
      | some p => some ([p], o)
      | none => none
  | .call f args => F f (args.map (·.get E.get)) h o
  | .callv fv args => match fv.get E.get with
    | .fn f caps => F f (args.map (·.get E.get) ++ caps) h o
    | _ => none
  | .nextM x => match evNextM h (x.get E.get) with
    | some outs => some (outs, o)
    | none => none
  | .bad => none

def evIX (F : CallX) (ask : Bool) : List EI → Tr → List Ob → Oc → Option (List (Tr × List Ob) × Oc)
  | [], E, h, o => some ([(E, h)], o)
  | i :: rest, E, h, o => match wantE E.get i.guard with
    | some true => match evAX F ask i.act E h o with
      | some (outs, o') => bindX (fun p o => match i.re.all fun g => reckB g (putE E i.dst p.1).get p.2 with
        | true => evIX F ask rest (putE E i.dst p.1) p.2 o
        | false => none) outs o'
      | none => none
    | some false => match i.re.all fun g => reckB g (putE E i.dst (.tup [])).get h with
      | true => evIX F ask rest (putE E i.dst (.tup [])) h o
      | false => none
    | none => none

def loopX (body : Tr → List Ob → Oc → Option (List (EX × Tr × List Ob) × Oc)) : Nat → Tr → List Ob → Oc → Option (List (EX × Tr × List Ob) × Oc)
  | 0, _, _, _ => none
  | k + 1, E, h, o => match body E h o with
    | some (outs, o') => bindX (fun p o => match p.1 with
      | .normal => loopX body k p.2.1 p.2.2 o
      | _ => some ([p], o)) outs o'
    | none => none

def evCX (F : CallX) (ask : Bool) (lf : Nat) : EC → Tr → List Ob → Oc → Option (List (EX × Tr × List Ob) × Oc)
  | .skip, E, h, o => some ([(.normal, E, h)], o)
  | .reg l, E, h, o => match evIX F ask l E h o with
    | some (outs, o') => some (outs.map fun p => (.normal, p.1, p.2), o')
    | none => none
  | .draw ls, E, h, o => bindX (fun l o => match evIX F ask l E h o with
    | some (outs, o') => some (outs.map fun p => (.normal, p.1, p.2), o')
    | none => none) ls o
  | .seq x y, E, h, o => match evCX F ask lf x E h o with
    | some (outs, o') => bindX (fun p o => match p.1 with
      | .normal => evCX F ask lf y p.2.1 p.2.2 o
      | _ => some ([p], o)) outs o'
    | none => none
  | .cond c x y, E, h, o => match c.get E.get with
    | .bool true => evCX F ask lf x E h o
    | .bool false => evCX F ask lf y E h o
    | _ => none
  | .block id x, E, h, o => match evCX F ask lf x E h o with
    | some (outs, o') => some (outs.map fun p => match p.1 with
      | .exit j => if j = id then (.normal, p.2.1, p.2.2) else p
      | _ => p, o')
    | none => none
  | .loop x, E, h, o => loopX (evCX F ask lf x) lf E h o
  | .exit id, E, h, o => some ([(.exit id, E, h)], o)
  | .ret, E, h, o => some ([(.ret, E, h)], o)

/-! ### What is no longer reached falls away -/
mutual
def idsV : V → List Nat
  | .ptr id _ _ => [id]
  | .hsl id _ _ => [id]
  | .mp id => [id]
  | .ref e _ => idsV e
  | .sl es => idsVs es
  | .fn _ cs => idsVs cs
  | .agg cs => idsVs cs
  | .tup cs => idsVs cs
  | _ => []
def idsVs : List V → List Nat
  | [] => []
  | v :: vs => idsV v ++ idsVs vs
end

def idsOb : Ob → List Nat
  | .row es _ => idsVs es
  | .map ents _ => ents.flatMap fun e => idsV e.1 ++ idsV e.2.1
  | .miter (some m) _ _ _ => [m]
  | _ => []

/-- What of the new is reached, from what is asked and from the old. -/
def reachN (h : List Ob) (n : Nat) : Nat → List Nat → List Nat → List Nat
  | 0, _, seen => seen
  | _, [], seen => seen
  | k + 1, i :: todo, seen => match decide (i < n) || seen.contains i with
    | true => reachN h n k todo seen
    | false => reachN h n k ((match h[i]? with | some ob => idsOb ob | none => []) ++ todo) (i :: seen)

def killAll (h : List Ob) : List Nat → List Ob
  | [] => h
  | i :: is => match decide (i < h.length) with
    | true => killAll (h.set i .dead) is
    | false => killAll h is

def tidy (n : Nat) (p : V × List Ob) : V × List Ob :=
  let live := reachN p.2 n (4 * p.2.length + 4) (idsV p.1 ++ (p.2.take n).flatMap idsOb) []
  (p.1, killAll p.2 ((List.range p.2.length).filter fun i => decide (n ≤ i) && !live.contains i))

def Ob.beq : Ob → Ob → Bool
  | .row es s, .row es' s' => V.beqs es es' && decide (s = s')
  | .map e c, .map e' c' => beqE e e' && decide (c = c')
  | .siter l p, .siter l' p' => decide (l = l') && decide (p = p')
  | .miter m s n p, .miter m' s' n' p' => decide (m = m') && decide (s = s') && decide (n = n') && decide (p = p')
  | .dead, .dead => true
  | _, _ => false
where beqE : List (V × V × Nat) → List (V × V × Nat) → Bool
  | [], [] => true
  | (a, b, c) :: l, (a', b', c') :: l' => V.beq a a' && V.beq b b' && decide (c = c') && beqE l l'
  | _, _ => false

def obsBeq : List Ob → List Ob → Bool
  | [], [] => true
  | a :: l, b :: l' => Ob.beq a b && obsBeq l l'
  | _, _ => false

def outBeq (p q : V × List Ob) : Bool := V.beq p.1 q.1 && obsBeq p.2 q.2

/-- Outcomes that are alike, once. -/
def once : List (V × List Ob) → List (V × List Ob) → List (V × List Ob)
  | acc, [] => acc
  | acc, p :: ps => match acc.any (outBeq p) with
    | true => once acc ps
    | false => once (acc ++ [p]) ps

def tidyAll (n : Nat) (outs : List (V × List Ob)) : List (V × List Ob) := match outs with
  | [p] => [p]
  | outs => once [] (outs.map (tidy n))

def endX (rs : List ERs) (outs : List (EX × Tr × List Ob)) : Option (List (V × List Ob)) := mapAll (fun p => match p.1 with
  | .exit _ => none
  | _ => match resE rs p.2.1.get p.2.2 with
    | some v => some (v, p.2.2)
    | none => none) outs

abbrev Sums := FuncId → List V → List Ob → Option (V × List Ob)

def evX (tab : FuncId → Option EFn) (sum : Sums) (asks : FuncId → Bool) (lf : Nat) : Nat → CallX
  | 0, _, _, _, _ => none
  | k + 1, f, args, h, o => match sum f args h with
    | some p => some ([p], o)
    | none => match tab f with
      | none => none
      | some e => if args.length ≤ e.n then match evCX (evX tab sum asks lf k) (asks f) lf e.code (envE args 0 .nil) h o with
          | some (outs, o') => match endX e.res outs with
            | some rs => some (tidyAll h.length rs, o')
            | none => none
          | none => none
        else none

/-! ### What it says -/
theorem bindX_spec {α β : Type} {k : α → Oc → Option (List β × Oc)} (mono : ∀ a o bs o', k a o = some (bs, o') → ∀ p, p ∈ o.asked → p ∈ o'.asked) : ∀ (as : List α) (o o' : Oc) (bs : List β), bindX k as o = some (bs, o') →
    (∀ p, p ∈ o.asked → p ∈ o'.asked) ∧ (∀ a, a ∈ as → ∃ o1 o2 cs, k a o1 = some (cs, o2) ∧ (∀ p, p ∈ o2.asked → p ∈ o'.asked) ∧ ∀ c, c ∈ cs → c ∈ bs)
  | [], o, o', bs, e => by
    simp only [bindX, Option.some.injEq, Prod.mk.injEq] at e
    obtain ⟨_, rfl⟩ := e
    exact ⟨fun p hp => hp, fun a ha => by simp at ha⟩
  | [a], o, o', bs, e => by
    simp only [bindX] at e
    exact ⟨mono _ _ _ _ e, fun a' ha => by
      rw [List.mem_singleton] at ha; subst ha
      exact ⟨o, o', bs, e, fun p hp => hp, fun c hc => hc⟩⟩
  | a :: b :: as, o, o', bs, e => by
    simp only [bindX] at e
    split at e
    · rename_i bs1 o1 h1
      split at e
      · rename_i cs1 o2 h2
        simp only [Option.some.injEq, Prod.mk.injEq] at e
        obtain ⟨rfl, rfl⟩ := e
        obtain ⟨g1, g2⟩ := bindX_spec mono (b :: as) o1 o2 cs1 h2
        refine ⟨fun p hp => g1 p (mono _ _ _ _ h1 p hp), fun a' ha => ?_⟩
        rcases List.mem_cons.1 ha with q | q
        · subst q
          exact ⟨o, o1, bs1, h1, g1, fun c hc => List.mem_append.2 (.inl hc)⟩
        · obtain ⟨p1, p2, p3, p4, p5, p6⟩ := g2 a' q
          exact ⟨p1, p2, p3, p4, p5, fun c hc => List.mem_append.2 (.inr (p6 c hc))⟩
      · cases e
    · cases e

def OkX (P : Program) (F : CallX) : Prop := ∀ f args h o outs o', F f args h o = some (outs, o') → (∀ p, p ∈ o.asked → p ∈ o'.asked) ∧ (o'.holds → entersB P f = true ∧ CE P f args h fun v h' => (v, h') ∈ outs)

theorem evAX_ok {P : Program} {F : CallX} (ok : OkX P F) {ask : Bool} {x : EA} {E : Tr} {h : List Ob} {outs : List (V × List Ob)} {o o' : Oc} (e : evAX F ask x E h o = some (outs, o')) :
    (∀ p, p ∈ o.asked → p ∈ o'.asked) ∧ (o'.holds → ∀ {K : V → List Ob → Prop}, (∀ p, p ∈ outs → K p.1 p.2) → wpA P x E.get h K) := by
  have plain : ∀ q : EOp, (match evOp q E.get h with | some p => some ([p], o) | none => none) = some (outs, o') → (∀ p, p ∈ o.asked → p ∈ o'.asked) ∧ (o'.holds → ∀ {K : V → List Ob → Prop}, (∀ p, p ∈ outs → K p.1 p.2) → wpA P (.op q) E.get h K) := by
    intro q e
    cases he : evOp q E.get h with
    | none => rw [he] at e; cases e
    | some p =>
      obtain ⟨v1, h1⟩ := p
      rw [he] at e
      injection e with e; injection e with e1 e2
      subst e1; subst e2
      exact ⟨fun p hp => hp, fun _ K k => by simp only [wpA, he, ifSome_some]; exact k _ (List.mem_singleton.2 rfl)⟩
  cases x with
  | op q =>
    simp only [evAX] at e
    split at e
    · cases q with
      | bin op x y =>
        simp only [evAsk] at e
        split at e
        · rename_i b bs ha hl
          injection e with e; injection e with e1 e2
          subst e1; subst e2
          refine ⟨fun p hp => by simp [hp], fun hh K k => ?_⟩
          have := hh (evBin op (x.get E.get) (y.get E.get), b) (by simp)
          simp only at this
          simp only [wpA, evOp, this, Option.map_some, ifSome_some]
          exact k _ (List.mem_singleton.2 rfl)
        · cases e
        · exact plain _ e
      | _ => exact plain _ e
    · rw [evOq_eq] at e
      exact plain _ e
  | call f args =>
    obtain ⟨g1, g2⟩ := ok _ _ _ _ _ _ e
    exact ⟨g1, fun hh K k => (g2 hh).2.mono (fun v2 h2 q => k _ q)⟩
  | callv fv args =>
    simp only [evAX] at e
    split at e
    · rename_i f caps hf
      obtain ⟨g1, g2⟩ := ok _ _ _ _ _ _ e
      refine ⟨g1, fun hh K k => ?_⟩
      simp only [wpA]
      rw [hf]
      exact ⟨(g2 hh).1, (g2 hh).2.mono (fun v2 h2 q => k _ q)⟩
    · cases e
  | nextM y =>
    simp only [evAX] at e
    split at e
    · rename_i outs1 hp
      injection e with e; injection e with e1 e2
      subst e1; subst e2
      refine ⟨fun p hp => hp, fun _ K k => ?_⟩
      simp only [wpA]
      rw [hp]
      exact k
    · cases e
  | bad => cases e

theorem evIX_ok {P : Program} {F : CallX} (ok : OkX P F) {ask : Bool} : ∀ (l : List EI) (E : Tr) (h : List Ob) (o o' : Oc) (outs : List (Tr × List Ob)), evIX F ask l E h o = some (outs, o') →
    (∀ p, p ∈ o.asked → p ∈ o'.asked) ∧ (o'.holds → ∀ {Q : Post}, (∀ p, p ∈ outs → Q .normal p.1.get p.2) → wpI P Q l E.get h)
  | [], E, h, o, o', outs, e => by
    simp only [evIX, Option.some.injEq, Prod.mk.injEq] at e
    obtain ⟨rfl, rfl⟩ := e
    exact ⟨fun p hp => hp, fun _ Q q => q _ (List.mem_singleton.2 rfl)⟩
  | i :: rest, E, h, o, o', outs, e => by
    simp only [evIX] at e
    split at e
    · rename_i hw
      split at e
      · rename_i outs1 o1 ha
        obtain ⟨a1, a2⟩ := evAX_ok ok ha
        have mono : ∀ (a : V × List Ob) (o : Oc) (bs : List (Tr × List Ob)) (o' : Oc), (match i.re.all fun g => reckB g (putE E i.dst a.1).get a.2 with
            | true => evIX F ask rest (putE E i.dst a.1) a.2 o
            | false => none) = some (bs, o') → ∀ p, p ∈ o.asked → p ∈ o'.asked := by
          intro a o bs o' q
          split at q
          · exact (evIX_ok ok rest _ _ _ _ _ q).1
          · cases q
        obtain ⟨b1, b2⟩ := bindX_spec mono _ _ _ _ e
        refine ⟨fun p hp => b1 p (a1 p hp), fun hh Q q => ?_⟩
        simp only [wpI]
        rw [hw]
        refine a2 (fun p hp => hh p (b1 p hp)) (K := fun v h' => andRe i.re (putT E.get i.dst v) h' (wpI P Q rest (putT E.get i.dst v) h')) (fun p hp => ?_)
        obtain ⟨o2, o3, cs, c1, c2, c3⟩ := b2 p hp
        split at c1
        · rename_i hr
          obtain ⟨g1, g2⟩ := evIX_ok ok rest _ _ _ _ _ c1
          rw [← putE_eq]
          exact reckB_ok hr (g2 (fun x hx => hh x (c2 x hx)) (fun x hx => q x (c3 x hx)))
        · cases c1
      · cases e
    · rename_i hw
      split at e
      · rename_i hr
        obtain ⟨g1, g2⟩ := evIX_ok ok rest _ _ _ _ _ e
        refine ⟨g1, fun hh Q q => ?_⟩
        simp only [wpI]
        rw [hw]
        simp only
        rw [← putE_eq]
        exact reckB_ok hr (g2 hh q)
      · cases e
    · cases e

theorem evCX_ok {P : Program} {F : CallX} (ok : OkX P F) {ask : Bool} {lf : Nat} : ∀ (c : EC) (E : Tr) (h : List Ob) (o o' : Oc) (outs : List (EX × Tr × List Ob)), evCX F ask lf c E h o = some (outs, o') →
    (∀ p, p ∈ o.asked → p ∈ o'.asked) ∧ (o'.holds → ∀ (Q : Post), (∀ p, p ∈ outs → Q p.1 p.2.1.get p.2.2) → wpC P c Q E.get h) := by
  intro c
  induction c with
  | skip =>
    intro E h o o' outs e
    simp only [evCX, Option.some.injEq, Prod.mk.injEq] at e; obtain ⟨rfl, rfl⟩ := e
    exact ⟨fun p hp => hp, fun _ Q q => q _ (List.mem_singleton.2 rfl)⟩
  | reg l =>
    intro E h o o' outs e
    simp only [evCX] at e
    split at e
    · rename_i outs1 o1 he
      simp only [Option.some.injEq, Prod.mk.injEq] at e; obtain ⟨rfl, rfl⟩ := e
      obtain ⟨g1, g2⟩ := evIX_ok ok l _ _ _ _ _ he
      exact ⟨g1, fun hh Q q => g2 hh (fun p hp => q _ (List.mem_map.2 ⟨p, hp, rfl⟩))⟩
    · cases e
  | draw ls =>
    intro E h o o' outs e
    simp only [evCX] at e
    have mono : ∀ (l : List EI) (o : Oc) (bs : List (EX × Tr × List Ob)) (o' : Oc), (match evIX F ask l E h o with
        | some (outs, o') => some (outs.map fun p => (EX.normal, p.1, p.2), o')
        | none => none) = some (bs, o') → ∀ q, q ∈ o.asked → q ∈ o'.asked := by
      intro l o bs o' q
      split at q
      · rename_i outs1 o1 he
        injection q with q; injection q with q1 q2; subst q2
        exact (evIX_ok ok l _ _ _ _ _ he).1
      · cases q
    obtain ⟨b1, b2⟩ := bindX_spec mono _ _ _ _ e
    refine ⟨b1, fun hh Q q l hl => ?_⟩
    obtain ⟨o2, o3, cs, c1, c2, c3⟩ := b2 l hl
    split at c1
    · rename_i outs1 o1 he
      injection c1 with c1; injection c1 with c1 c4; subst c1; subst c4
      exact (evIX_ok ok l _ _ _ _ _ he).2 (fun x hx => hh x (c2 x hx)) (fun p hp => q _ (c3 _ (List.mem_map.2 ⟨p, hp, rfl⟩)))
    · cases c1
  | seq a b iha ihb =>
    intro E h o o' outs e
    simp only [evCX] at e
    split at e
    · rename_i outs1 o1 he
      obtain ⟨a1, a2⟩ := iha _ _ _ _ _ he
      have mono : ∀ (p : EX × Tr × List Ob) (o : Oc) (bs : List (EX × Tr × List Ob)) (o' : Oc), (match p.1 with
          | .normal => evCX F ask lf b p.2.1 p.2.2 o
          | _ => some ([p], o)) = some (bs, o') → ∀ q, q ∈ o.asked → q ∈ o'.asked := by
        intro p o bs o' q
        split at q
        · exact (ihb _ _ _ _ _ q).1
        · injection q with q; injection q with q1 q2; subst q2; exact fun x hx => hx
      obtain ⟨b1, b2⟩ := bindX_spec mono _ _ _ _ e
      refine ⟨fun p hp => b1 p (a1 p hp), fun hh Q q => a2 (fun p hp => hh p (b1 p hp)) _ (fun p hp => ?_)⟩
      obtain ⟨o2, o3, cs, c1, c2, c3⟩ := b2 p hp
      obtain ⟨x, E1, h1⟩ := p
      cases x with
      | normal =>
        simp only at c1
        exact (ihb _ _ _ _ _ c1).2 (fun x hx => hh x (c2 x hx)) Q (fun x hx => q x (c3 x hx))
      | exit j =>
        simp only [Option.some.injEq, Prod.mk.injEq] at c1
        obtain ⟨rfl, rfl⟩ := c1
        exact q _ (c3 _ (List.mem_singleton.2 rfl))
      | ret =>
        simp only [Option.some.injEq, Prod.mk.injEq] at c1
        obtain ⟨rfl, rfl⟩ := c1
        exact q _ (c3 _ (List.mem_singleton.2 rfl))
    · cases e
  | cond c a b iha ihb =>
    intro E h o o' outs e
    simp only [evCX] at e
    split at e
    · rename_i hc
      obtain ⟨a1, a2⟩ := iha _ _ _ _ _ e
      exact ⟨a1, fun hh Q q => by simp only [wpC]; rw [hc]; exact a2 hh Q q⟩
    · rename_i hc
      obtain ⟨a1, a2⟩ := ihb _ _ _ _ _ e
      exact ⟨a1, fun hh Q q => by simp only [wpC]; rw [hc]; exact a2 hh Q q⟩
    · cases e
  | block id a ih =>
    intro E h o o' outs e
    simp only [evCX] at e
    split at e
    · rename_i outs1 o1 he
      simp only [Option.some.injEq, Prod.mk.injEq] at e; obtain ⟨rfl, rfl⟩ := e
      obtain ⟨a1, a2⟩ := ih _ _ _ _ _ he
      refine ⟨a1, fun hh Q q => a2 hh _ (fun p hp => ?_)⟩
      have := q _ (List.mem_map.2 ⟨p, hp, rfl⟩)
      obtain ⟨x, E1, h1⟩ := p
      cases x with
      | normal => exact this
      | ret => exact this
      | exit j =>
        simp only [blockQ]
        simp only at this
        split
        · rename_i hj; rw [if_pos hj] at this; exact this
        · rename_i hj; rw [if_neg hj] at this; exact this
    · cases e
  | loop a ih =>
    intro E h o o' outs e
    simp only [evCX] at e
    have mono : ∀ m E h o outs o', loopX (evCX F ask lf a) m E h o = some (outs, o') → ∀ p, p ∈ o.asked → p ∈ o'.asked := by
      intro m
      induction m with
      | zero => intro E h o outs o' e; simp [loopX] at e
      | succ m ihm =>
        intro E h o outs o' e
        simp only [loopX] at e
        split at e
        · rename_i outs1 o1 he
          have mono1 : ∀ (p : EX × Tr × List Ob) (o : Oc) (bs : List (EX × Tr × List Ob)) (o' : Oc), (match p.1 with
              | .normal => loopX (evCX F ask lf a) m p.2.1 p.2.2 o
              | _ => some ([p], o)) = some (bs, o') → ∀ q, q ∈ o.asked → q ∈ o'.asked := by
            intro p o bs o' q
            split at q
            · exact ihm _ _ _ _ _ q
            · injection q with q; injection q with q1 q2; subst q2; exact fun x hx => hx
          exact fun p hp => (bindX_spec mono1 _ _ _ _ e).1 p ((ih _ _ _ _ _ he).1 p hp)
        · cases e
    refine ⟨mono lf E h o outs o' e, fun hh Q q => ?_⟩
    simp only [wpC]
    refine ⟨fun m t h => ∃ E o outs o', t = E.get ∧ loopX (evCX F ask lf a) m E h o = some (outs, o') ∧ o'.holds ∧ ∀ p, p ∈ outs → Q p.1 p.2.1.get p.2.2, ⟨lf, E, o, outs, o', rfl, e, hh, q⟩, fun m t h ⟨E, o, outs, o', ht, hm, hh, q⟩ => ?_⟩
    subst ht
    cases m with
    | zero => simp [loopX] at hm
    | succ m =>
      simp only [loopX] at hm
      split at hm
      · rename_i outs1 o1 he
        have mono1 : ∀ (p : EX × Tr × List Ob) (o : Oc) (bs : List (EX × Tr × List Ob)) (o' : Oc), (match p.1 with
            | .normal => loopX (evCX F ask lf a) m p.2.1 p.2.2 o
            | _ => some ([p], o)) = some (bs, o') → ∀ q, q ∈ o.asked → q ∈ o'.asked := by
          intro p o bs o' q
          split at q
          · exact mono m _ _ _ _ _ q
          · injection q with q; injection q with q1 q2; subst q2; exact fun x hx => hx
        obtain ⟨b1, b2⟩ := bindX_spec mono1 _ _ _ _ hm
        refine (ih _ _ _ _ _ he).2 (fun p hp => hh p (b1 p hp)) _ (fun p hp => ?_)
        obtain ⟨o2, o3, cs, c1, c2, c3⟩ := b2 p hp
        obtain ⟨x, E1, h1⟩ := p
        cases x with
        | normal =>
          simp only at c1
          exact ⟨m, Nat.lt_succ_self m, E1, o2, cs, o3, rfl, c1, fun x hx => hh x (c2 x hx), fun x hx => q x (c3 x hx)⟩
        | exit j =>
          simp only [Option.some.injEq, Prod.mk.injEq] at c1
          obtain ⟨rfl, rfl⟩ := c1
          exact q _ (c3 _ (List.mem_singleton.2 rfl))
        | ret =>
          simp only [Option.some.injEq, Prod.mk.injEq] at c1
          obtain ⟨rfl, rfl⟩ := c1
          exact q _ (c3 _ (List.mem_singleton.2 rfl))
      · cases hm
  | exit id =>
    intro E h o o' outs e
    simp only [evCX, Option.some.injEq, Prod.mk.injEq] at e; obtain ⟨rfl, rfl⟩ := e
    exact ⟨fun p hp => hp, fun _ Q q => q _ (List.mem_singleton.2 rfl)⟩
  | ret =>
    intro E h o o' outs e
    simp only [evCX, Option.some.injEq, Prod.mk.injEq] at e; obtain ⟨rfl, rfl⟩ := e
    exact ⟨fun p hp => hp, fun _ Q q => q _ (List.mem_singleton.2 rfl)⟩

/-! ### What falls away -/
theorem HRel.kill {L : Loc} {h : List Ob} {w : World} (H : HRel L h w) {i : Nat} (hi : i < h.length) : HRel (L.kill i) (h.set i .dead) w := by
  refine ⟨by simp [Loc.kill, H.len], fun id ob ho => ?_, fun id p hp => ?_, fun id b base sz hb => ?_, fun x y b p q hx hy => ?_⟩
  · by_cases hid : id = i
    · subst hid
      rw [List.getElem?_set_self hi] at ho
      injection ho with ho; subst ho
      exact L.kill_same id
    · rw [List.getElem?_set_ne (fun q => hid q.symm)] at ho
      exact ORel.step H (Fr.refl _ _) (ext_kill L w i) (H.obs id ob ho) (L.kill_other hid) (fun _ _ _ _ => rfl)
  · by_cases hid : id = i
    · subst hid; rw [L.kill_same] at hp; cases hp
    · rw [L.kill_other hid] at hp; exact H.lt id p hp
  · by_cases hid : id = i
    · subst hid; rw [L.kill_same] at hb; cases hb
    · rw [L.kill_other hid] at hb; exact H.mem id b base sz hb
  · by_cases h1 : x = i
    · subst h1; rw [L.kill_same] at hx; cases hx
    · by_cases h2 : y = i
      · subst h2; rw [L.kill_same] at hy; cases hy
      · rw [L.kill_other h1] at hx; rw [L.kill_other h2] at hy; exact H.inj _ _ _ _ _ hx hy

theorem killAll_rel {L₀ : Loc} {w₀ w : World} {v : V} {x : Value} : ∀ (is : List Nat) (L : Loc) (h : List Ob), Rep L w v x → HRel L h w → Fr (Own L₀) w₀ w → Ext L₀ w₀ L → ∃ L', Rep L' w v x ∧ HRel L' (killAll h is) w ∧ Ext L₀ w₀ L'
  | [], L, h, r, H, fr, ex => ⟨L, r, H, ex⟩
  | i :: is, L, h, r, H, fr, ex => by
    simp only [killAll]
    split
    · rename_i hi
      have hi' := of_decide_eq_true hi
      exact killAll_rel is (L.kill i) _ (H.step_rep r (Fr.refl _ _) (ext_kill L w i)) (H.kill hi') fr (ex.trans (ext_kill L w i) fr.size)
    · exact killAll_rel is L h r H fr ex

theorem CE.kill {P : Program} {f : FuncId} {args : List V} {h : List Ob} {R : V → List Ob → Prop} (c : CE P f args h R) (g : V → List Ob → List Nat) : CE P f args h fun v h' => ∃ h0, R v h0 ∧ h' = killAll h0 (g v h0) :=
  fun L w xs a H => (c L w xs a H).mono fun e w' ⟨x, v, h', L', h1, h2, h3, h4, h5, h6⟩ => by
    obtain ⟨L2, g1, g2, g3⟩ := killAll_rel (g v h') L' h' h3 h4 h5 h6
    exact ⟨x, v, _, L2, h1, ⟨h', h2, rfl⟩, g1, g2, h5, g3⟩

theorem beqE_eq : ∀ l l' : List (V × V × Nat), Ob.beq.beqE l l' = true → l = l'
  | [], [], _ => rfl
  | [], _ :: _, h => by simp [Ob.beq.beqE] at h
  | _ :: _, [], h => by simp [Ob.beq.beqE] at h
  | (a, b, c) :: l, (a', b', c') :: l', h => by
    simp only [Ob.beq.beqE, Bool.and_eq_true, decide_eq_true_eq] at h
    obtain ⟨⟨⟨h1, h2⟩, h3⟩, h4⟩ := h
    rw [V.beq_eq _ _ h1, V.beq_eq _ _ h2, h3, beqE_eq _ _ h4]

theorem Ob.beq_eq (a b : Ob) (h : Ob.beq a b = true) : a = b := by
  cases a <;> cases b <;> simp only [Ob.beq, Bool.and_eq_true, decide_eq_true_eq, Bool.false_eq_true] at h <;> first | (cases h; done) | skip
  · rw [V.beqs_eq _ _ h.1, h.2]
  · rw [beqE_eq _ _ h.1, h.2]
  · rw [h.1, h.2]
  · obtain ⟨⟨⟨h1, h2⟩, h3⟩, h4⟩ := h
    rw [h1, h2, h3, h4]
  · rfl

theorem obsBeq_eq : ∀ a b : List Ob, obsBeq a b = true → a = b
  | [], [], _ => rfl
  | [], _ :: _, h => by simp [obsBeq] at h
  | _ :: _, [], h => by simp [obsBeq] at h
  | a :: l, b :: l', h => by
    simp only [obsBeq, Bool.and_eq_true] at h
    rw [Ob.beq_eq _ _ h.1, obsBeq_eq _ _ h.2]

theorem outBeq_eq {p q : V × List Ob} (h : outBeq p q = true) : p = q := by
  simp only [outBeq, Bool.and_eq_true] at h
  exact Prod.ext (V.beq_eq _ _ h.1) (obsBeq_eq _ _ h.2)

theorem once_spec : ∀ (ps acc : List (V × List Ob)) (p : V × List Ob), p ∈ acc ∨ p ∈ ps → p ∈ once acc ps
  | [], acc, p, h => by
    rcases h with h | h
    · exact h
    · simp at h
  | q :: ps, acc, p, h => by
    simp only [once]
    split
    · rename_i hq
      refine once_spec ps acc p ?_
      rcases h with h | h
      · exact .inl h
      · rcases List.mem_cons.1 h with h | h
        · subst h
          obtain ⟨r, h1, h2⟩ := List.any_eq_true.1 hq
          rw [outBeq_eq h2]; exact .inl h1
        · exact .inr h
    · refine once_spec ps (acc ++ [q]) p ?_
      rcases h with h | h
      · exact .inl (List.mem_append.2 (.inl h))
      · rcases List.mem_cons.1 h with h | h
        · subst h; exact .inl (List.mem_append.2 (.inr (List.mem_singleton.2 rfl)))
        · exact .inr h

theorem tidyAll_ok {P : Program} {f : FuncId} {args : List V} {h : List Ob} {n : Nat} {rs : List (V × List Ob)} (c : CE P f args h fun v h' => (v, h') ∈ rs) : CE P f args h fun v h' => (v, h') ∈ tidyAll n rs := by
  unfold tidyAll
  split
  · exact c
  · refine (c.kill fun v h' => (List.range h'.length).filter fun i => decide (n ≤ i) && !(reachN h' n (4 * h'.length + 4) (idsV v ++ (h'.take n).flatMap idsOb) []).contains i).mono ?_
    rintro v h' ⟨h0, h1, rfl⟩
    exact once_spec _ _ _ (.inr (List.mem_map.2 ⟨(v, h0), h1, rfl⟩))

def OkS (P : Program) (sum : Sums) : Prop := ∀ f args h v h', sum f args h = some (v, h') → entersB P f = true ∧ CE P f args h fun v2 h2 => v2 = v ∧ h2 = h'

theorem evX_ok {P : Program} {tab : FuncId → Option EFn} (T : TabOk P tab) {sum : Sums} (S : OkS P sum) (asks : FuncId → Bool) (lf : Nat) : ∀ k, OkX P (evX tab sum asks lf k)
  | 0, f, args, h, o, outs, o', e => by cases e
  | k + 1, f, args, h, o, outs, o', e => by
    simp only [evX] at e
    split at e
    · rename_i p hp
      injection e with e; injection e with e1 e2; subst e1; subst e2
      obtain ⟨v, h'⟩ := p
      obtain ⟨g1, g2⟩ := S _ _ _ _ _ hp
      exact ⟨fun p hp => hp, fun _ => ⟨g1, g2.mono (fun v2 h2 ⟨q1, q2⟩ => by subst q1; subst q2; exact List.mem_singleton.2 rfl)⟩⟩
    · split at e
      · cases e
      · rename_i ef hf
        obtain ⟨fn, g1, g2, g3⟩ := T f ef hf
        split at e
        · rename_i hn
          split at e
          · rename_i outs1 o1 he
            obtain ⟨a1, a2⟩ := evCX_ok (evX_ok T S asks lf k) _ _ _ _ _ _ he
            split at e
            · rename_i rs hr
              injection e with e; injection e with e1 e2; subst e1; subst e2
              refine ⟨a1, fun hh => ⟨g3, tidyAll_ok (CE.of_body g1 g2 hn ?_)⟩⟩
              rw [← envE_eq]
              refine a2 hh _ (fun p hp => ?_)
              obtain ⟨i, hi, rfl⟩ := List.mem_iff_getElem.1 hp
              obtain ⟨y, y1, y2⟩ := mapAll_get' hr i hi
              generalize outs1[i] = p at y2
              obtain ⟨x, E1, h1⟩ := p
              cases x with
              | exit j => simp at y2
              | normal =>
                simp only at y2
                split at y2
                · rename_i v hv
                  injection y2 with y2
                  exact resK_of hv (by show (v, h1) ∈ rs; rw [y2]; exact y1)
                · cases y2
              | ret =>
                simp only at y2
                split at y2
                · rename_i v hv
                  injection y2 with y2
                  exact resK_of hv (by show (v, h1) ∈ rs; rw [y2]; exact y1)
                · cases y2
            · cases e
          · cases e
        · cases e

/-- A call that evaluation brings to an end, in one way or more, where the answers are right. -/
theorem ce_of_X {P : Program} {tab : FuncId → Option EFn} (T : TabOk P tab) {sum : Sums} (S : OkS P sum) {asks : FuncId → Bool} {lf k : Nat} {f : FuncId} {args : List V} {h : List Ob} {bs : List Bool} {vs : List V} {cs : List (Option V × Bool)}
    (e : (evX tab sum asks lf k f args h ⟨bs, []⟩).map (fun r => (r.1.map (·.1), r.2.asked)) = some (vs, cs)) (hc : ∀ p, p ∈ cs → p.1 = some (.bool p.2)) : CE P f args h fun r _ => r ∈ vs := by
  simp only [Option.map_eq_some_iff] at e
  obtain ⟨⟨r, o'⟩, e1, e2⟩ := e
  injection e2 with e2 e3
  refine ((evX_ok T S asks lf k f args h _ r o' e1).2 (fun p hp => hc p (e3 ▸ hp))).2.mono fun r2 h2 q => ?_
  rw [← e2]
  exact List.mem_map.2 ⟨_, q, rfl⟩

theorem noSums_ok {P : Program} : OkS P fun _ _ _ => none := fun _ _ _ _ _ e => by cases e

end Go.Proofs.Ytdcdmpgigmhhpaa.E
