/- The layer E, part 16: the operations of the program with their types looked up ahead, and that each comes to what is said. No condition. -/
import Derived.Test.YtdcdmpgigmhhpaaE30
namespace Go.Proofs.Ytdcdmpgigmhhpaa.E
set_option linter.unusedSimpArgs false
set_option linter.unusedVariables false

def zeroOf (P : Program) (t : TypeId) : Option V := (P.info? t).bind fun i => i.zero.bind ofZero

/-- An array of plain values: its variable is a row of them. -/
def arrOf (P : Program) (t : TypeId) : Bool := match P.underlying t with
  | some (.array _ e) => P.cellsOf e == 1
  | _ => false

def cOpt (n : Nat) : Option Operand → Option (Option EO)
  | none => some none
  | some x => (cOpd n x).map some

def lkOf (P : Program) (t : TypeId) : Option LK := match P.underlying t with
  | some (.int _) => some .i
  | some .string => some .s
  | some .bool => some .b
  | _ => none

theorem lkOf_fits {P : Program} {t : TypeId} {k : LK} (h : lkOf P t = some k) : k.fits P t := by
  unfold lkOf at h
  split at h <;> first | (cases h; done) | skip
  all_goals injection h with h; subst h
  · rename_i q; exact ⟨_, q⟩
  · rename_i q; exact q
  · rename_i q; exact q

def eqTOf (P : Program) (t : TypeId) : Option EqT := match P.underlying t with
  | some .bool => some .bool
  | some (.pointer _) => some .ptr
  | some (.slice _) => some .slice
  | some (.map _ _) => some .map
  | some (.func _ _ _) => some .func
  | some (.struct _) => if P.eqGuardType P.depth t = false then (leavesOf P 8 t).map (.struct (P.cellsOf t)) else none
  | _ => none

theorem eqTOf_fits {P : Program} {t : TypeId} {T : EqT} (h : eqTOf P t = some T) : T.fits P t := by
  unfold eqTOf at h
  split at h <;> first | (cases h; done) | skip
  · rename_i q; injection h with h; subst h; exact q
  · rename_i q; injection h with h; subst h; exact ⟨_, q⟩
  · rename_i q; injection h with h; subst h; exact ⟨_, q⟩
  · rename_i q; injection h with h; subst h; exact ⟨_, _, q⟩
  · rename_i q; injection h with h; subst h; exact ⟨_, _, _, q⟩
  · rename_i q
    split at h
    · rename_i g
      simp only [Option.map_eq_some_iff] at h
      obtain ⟨ls, h1, rfl⟩ := h
      exact ⟨h1, g, by simp [isStruct, q], rfl⟩
    · cases h

def isCmpPlain (P : Program) (t : TypeId) : Bool := match P.underlying t with
  | some (.int _) | some .string => true
  | _ => false

/-- Where a composite value's parts lie. -/
def placesOf (P : Program) (t : TypeId) : Option (Nat → Option (Nat × Nat)) :=
  match P.underlying t with
  | some (.array _ e) => (P.info? e).map fun ie => fun i => some (i * ie.size, ie.size)
  | some (.struct fs) => (fs.toList.mapM (fun f => (P.info? f.type).map fun i => (f.offset, i.size))).map fun ps => fun i => ps.toArray[i]?
  | _ => none

def compParts (n : Nat) (place : Nat → Option (Nat × Nat)) (ps : List (Nat × Operand)) : Option (List (Nat × Nat × EO)) :=
  mapAll (fun p => match place p.1, cOpd n p.2 with | some q, some x => some (q.1, q.2, x) | _, _ => none) ps

def compBuiltin (P : Program) (n : Nat) (b : Builtin) (ts : Array TypeId) (xs : Array Operand) : Option EOp :=
  match b, ts.toList, xs.toList with
  | .len, t :: _, [x] => match P.underlying t, cOpd n x with
    | some .string, some x => some (.lenS x)
    | some (.slice _), some x => some (.lenL x)
    | some (.map _ _), some x => some (.lenM x)
    | _, _ => none
  | .cap, t :: _, [x] => match P.underlying t, cOpd n x with
    | some (.slice _), some x => some (.capL x)
    | _, _ => none
  | .append, [t, t2], [x, y] => match P.underlying t, P.underlying t2, cOpd n x, cOpd n y with
    | some (.slice e), some (.int _), some x, some y => match P.info? e with
      | some i => if i.zero matches some (.int .u8 0) then (if i.size = 1 ∧ i.bytes = 1 then some (.appZ 1 1 .nilp x y) else none) else none
      | none => none
    | some (.slice e), some (.int _), _, _ => none
    | some (.slice e), some _, some x, some y => match P.info? e with
      | some i => match i.zero with
        | some z => if 0 < i.bytes ∧ z.cells.size = i.size ∧ 0 < i.size then some (.app i.size i.bytes x y) else none
        | none => none
      | none => none
    | _, _, _, _ => none
  | .copy, t :: _, [x, y] => match P.underlying t, cOpd n x, cOpd n y with
    | some (.slice e), some x, some y => match P.info? e with
      | some i => if 0 < i.size then some (.copy i.size x y) else none
      | none => none
    | _, _, _ => none
  | .min, _, [x, y] => match cOpd n x, cOpd n y with | some x, some y => some (.minmax false x y) | _, _ => none
  | .max, _, [x, y] => match cOpd n x, cOpd n y with | some x, some y => some (.minmax true x y) | _, _ => none
  | .delete, t :: _, [x, y] => match P.underlying t, cOpd n x, cOpd n y with
    | some (.map k _), some x, some y => (lkOf P k).map fun kt => .delete kt x y
    | _, _, _ => none
  | _, _, _ => none

def compOp (P : Program) (n : Nat) (o : Op) : Option EOp :=
  match o with
  | .move x => (cOpd n x).map .mv
  | .assign x => (cOpd n x).map .mv
  | .pick c a b => match cOpd n c, cOpd n a, cOpd n b with | some c, some a, some b => some (.pick c a b) | _, _, _ => none
  | .alloc T => (zeroOf P T).map (.alloc (arrOf P T))
  | .box T x => (cOpd n x).map (.box (arrOf P T))
  | .build T ps => match zeroOf P T, placesOf P T with
    | some (.agg z), some place => (compParts n place ps.toList).map (.build z)
    | _, _ => none
  | .buildSlice T len ps => match P.underlying T with
    | some (.slice e) => match P.info? e, zeroOf P e, mapAll (fun p : Nat × Operand => (cOpd n p.2).map fun x => (p.1, x)) ps.toList with
      | some i, some z, some ps => if plainV i.size z ∧ 0 < i.size then some (.bslice i.size z len ps) else none
      | _, _, _ => none
    | _ => none
  | .load T a => match P.info? T, P.underlying T, cOpd n a with
    | some i, some _, some a => if isStruct P T then some (.loadN i.size a) else some (.load1 a)
    | _, _, _ => none
  | .store T a x => match P.info? T, cOpd n a, cOpd n x with
    | some i, some a, some x => some (.store i.size a x)
    | _, _, _ => none
  | .nilCheck x => (cOpd n x).map .nilck
  | .binOp op T x y _ => match cOpd n x, cOpd n y with
    | some x, some y => if op = .eql ∨ op = .neq then (if isCmpPlain P T then some (.bin op x y) else (eqTOf P T).map fun T => .eq (op = .neq) T x y) else some (.bin op x y)
    | _, _ => none
  | .unOp op _ x => (cOpd n x).map (.un op)
  | .convert s d x => match P.underlying s, P.underlying d, cOpd n x with
    | some (.int _), some (.int k), some x => some (.toInt k x)
    | some .string, some .string, some x => some (.strId x)
    | some .string, some (.slice e), some x => if P.underlying e matches some (.int .u8) then some (.toBytes x) else none
    | some (.slice e), some (.slice _), some x => if s = d then (if P.underlying e matches some (.int .u8) then some (.strish x) else none) else none
    | some (.slice e), some .string, some x => if P.underlying e matches some (.int .u8) then some (.toStr x) else none
    | _, _, _ => none
  | .makeFunc (.func f) first caps => if first.size = 0 then (mapAll (cOpd n) caps.toList).map (.mkfn f) else none
  | .makeMap _ none => some .mkmap
  | .makeSlice T l c => match P.underlying T, cOpd n l, cOpd n c with
    | some (.slice e), some l, some c => match P.info? e, zeroOf P e with
      | some i, some z => if z.cells.length = i.size ∧ 0 < i.size then some (.mkslice z i.bytes l c) else none
      | _, _ => none
    | _, _, _ => none
  | .slice T x lo hi mx => match P.underlying T, cOpd n x, cOpt n lo, cOpt n hi, cOpt n mx with
    | some .string, some x, some lo, some hi, some none => some (.slcS x lo hi)
    | some (.slice e), some x, some lo, some hi, some mx => (P.info? e).map fun i => .slcL i.size x lo hi mx
    | some (.array k e), some x, some lo, some hi, some none => (P.info? e).bind fun i => if 0 < i.size then some (.slcA k i.size x lo hi) else none
    | _, _, _, _, _ => none
  | .fieldAddr T x k => match P.underlying T, cOpd n x with
    | some (.struct fs), some x => match fs[k]? with
      | some g => (P.info? g.type).bind fun i => if i.size ≠ 0 then some (.faddr g.offset x) else none
      | none => none
    | _, _ => none
  | .field T x k => match P.underlying T, cOpd n x with
    | some (.struct fs), some x => match fs[k]? with
      | some g => match P.info? g.type, P.underlying g.type with
        | some i, some _ => if isStruct P g.type then some (.fieldN g.offset i.size x) else some (.field1 g.offset x)
        | _, _ => none
      | none => none
    | _, _ => none
  | .indexAddr T x i => match P.underlying T, cOpd n x, cOpd n i with
    | some (.array k e), some x, some i => (P.info? e).map fun ie => .iaddrA k ie.size x i
    | some (.slice e), some x, some i => (P.info? e).map fun ie => .iaddrL ie.size x i
    | _, _, _ => none
  | .index T x i => match P.underlying T, cOpd n x, cOpd n i with
    | some .string, some x, some i => some (.idxS x i)
    | _, _, _ => none
  | .extract x i => (cOpd n x).map (.ext i)
  | .lookup T m k ok => match P.underlying T, cOpd n m, cOpd n k with
    | some (.map kT eT), some m, some k => match lkOf P kT, zeroOf P eT with
      | some kt, some z => some (.lookup kt z ok m k)
      | _, _ => none
    | _, _, _ => none
  | .mapUpdate T m k v => match P.underlying T, cOpd n m, cOpd n k, cOpd n v with
    | some (.map kT _), some m, some k, some v => (lkOf P kT).map fun kt => .mapupd kt m k v
    | _, _, _, _ => none
  | .range T x => match P.underlying T, cOpd n x with
    | some .string, some x => some (.rangeS x)
    | some (.map _ _), some x => some (.rangeM x)
    | _, _ => none
  | .next x true => (cOpd n x).map .nextS
  | .entry x => (cOpd n x).map .entry
  | .call { callee := .builtin b, args, argTypes } => compBuiltin P n b argTypes args
  | _ => none

def evOp (eo : EOp) (t : Nat → V) (h : List Ob) : Option (V × List Ob) :=
  match eo with
  | .mv x => some (x.get t, h)
  | .pick c a b => match c.get t with
    | .bool q => some (if q then a.get t else b.get t, h)
    | _ => none
  | .alloc arr z => evBox arr h z
  | .box arr x => evBox arr h (x.get t)
  | .build z ps => (fillV z (ps.map fun p => (p.1, p.2.1, p.2.2.get t))).map fun cs => (.agg cs, h)
  | .bslice sz z len ps => evBslice' h sz z len (ps.map fun p => (p.1, p.2.get t))
  | .load1 a => (evLoad1 h (a.get t)).map fun v => (v, h)
  | .loadN n a => (evLoadN h n (a.get t)).map fun v => (v, h)
  | .store n a x => (evStore h n (a.get t) (x.get t)).map fun h' => (.tup [], h')
  | .nilck x => (evNilck h (x.get t)).map fun v => (v, h)
  | .bin op x y => (evBin op (x.get t) (y.get t)).map fun v => (v, h)
  | .eq neg T x y => (evEq h T (x.get t) (y.get t)).map fun b => (.bool (if neg then !b else b), h)
  | .un op x => (evUn op (x.get t)).map fun v => (v, h)
  | .toInt k x => match x.get t with
    | .int _ m => some (.int k (k.wrap m), h)
    | _ => none
  | .strId x => match x.get t with
    | .str l => some (.str l, h)
    | _ => none
  | .toStr x => (evToStr h (x.get t)).map fun v => (v, h)
  | .toBytes x => match x.get t with
    | .str l => some (evToBytes h l)
    | _ => none
  | .mkfn f caps => some (.fn f (caps.map (·.get t)), h)
  | .mkslice z b l c => match l.get t, c.get t with
    | .int _ l, .int _ c => evMake h z b l c
    | _, _ => none
  | .slcS x lo hi => match x.get t with
    | .str l => (evSlcS l (lo.map (·.get t)) (hi.map (·.get t))).map fun v => (v, h)
    | _ => none
  | .slcL sz x lo hi mx => match x.get t with
    | .hsl id off len => match h[id]? with
      | some (.row _ s) => if s = sz then (evSlcL h (.hsl id off len) (lo.map (·.get t)) (hi.map (·.get t)) (mx.map (·.get t))).map fun v => (v, h) else none
      | _ => none
    | .sl es => if headOk sz es then (evSlcL h (.sl es) (lo.map (·.get t)) (hi.map (·.get t)) (mx.map (·.get t))).map fun v => (v, h) else none
    | v => (evSlcL h v (lo.map (·.get t)) (hi.map (·.get t)) (mx.map (·.get t))).map fun v => (v, h)
  | .slcA n sz x lo hi => (evSlcA h n sz (x.get t) (lo.map (·.get t)) (hi.map (·.get t))).map fun v => (v, h)
  | .faddr off x => match x.get t with
    | .ptr id i j => if aliveB h id then some (.ptr id i (j + off), h) else none
    | .ref e j => some (.ref e (j + off), h)
    | _ => none
  | .field1 off x => (evField1 off (x.get t)).map fun v => (v, h)
  | .fieldN off n x => (evFieldN off n (x.get t)).map fun v => (v, h)
  | .iaddrA n sz x i => match i.get t with
    | .int _ m => (evIaddrA h n sz (x.get t) m).map fun v => (v, h)
    | _ => none
  | .iaddrL sz x i => match i.get t with
    | .int _ m => (evIaddrL h sz (x.get t) m).map fun v => (v, h)
    | _ => none
  | .idxS x i => match x.get t, i.get t with
    | .str l, .int _ m => (evIdxS l m).map fun v => (v, h)
    | _, _ => none
  | .ext i x => (evExt i (x.get t)).map fun v => (v, h)
  | .lenS x => match x.get t with
    | .str l => some (.int .i64 l.length, h)
    | _ => none
  | .lenL x => (evLenL h (x.get t)).map fun (m : Nat) => ((.int .i64 m : V), h)
  | .app sz bytes x y => (conts h sz (y.get t)).bind fun es => evApp h sz bytes (x.get t) es
  | .copy sz x y => (conts h sz (y.get t)).bind fun es => evCopy h sz (x.get t) es
  | .minmax mx x y => (evMinmax mx (x.get t) (y.get t)).map fun v => (v, h)
  | .mkmap => some (.mp h.length, h ++ [.map [] 0])
  | .lenM x => (evLenM h (x.get t)).map fun (m : Nat) => ((.int .i64 m : V), h)
  | .lookup kt z ok m k => (evLookup h kt z ok (m.get t) (k.get t)).map fun v => (v, h)
  | .mapupd kt m k v => (evMapUpd h kt (m.get t) (k.get t) (v.get t)).map fun h' => (.tup [], h')
  | .delete kt m k => (evDelete h kt (m.get t) (k.get t)).map fun h' => (.tup [], h')
  | .capL x => (evCap (x.get t)).map fun (m : Nat) => ((.int .i64 m : V), h)
  | .appZ _ _ _ x n => match n.get t with
    | .int _ m => evAppZ h (x.get t) m
    | _ => none
  | .strish x => (evStrish h (x.get t)).map fun v => (v, h)
  | .rangeS x => evRangeS h (x.get t)
  | .rangeM x => evRangeM h (x.get t)
  | .entry x => (evEntry h (x.get t)).map fun v => (v, h)
  | .cmpB x y => match evBytes h (x.get t), evBytes h (y.get t) with
    | some l, some m => some (.int .i64 (Lib.compareBytes l m), h)
    | _, _ => none
  | .idxB x c => match evBytes h (x.get t), c.get t with
    | some l, .int .u8 c => some (.int .i64 (Lib.indexByte l c.toNat.toUInt8), h)
    | _, _ => none
  | .nextS x => evNextS h (x.get t)
  | _ => none

theorem zeroOf_spec {P : Program} {t : TypeId} {z : V} (h : zeroOf P t = some z) : ∃ i zv, P.info? t = some i ∧ i.zero = some zv ∧ ofZero zv = some z := by
  unfold zeroOf at h
  simp only [Option.bind_eq_some_iff] at h
  obtain ⟨i, h1, zv, h2, h3⟩ := h
  exact ⟨i, zv, h1, h2, h3⟩

theorem cOpt_rep {L : Loc} {w : World} {n : Nat} {t : Nat → V} {a : Act} (r : TRel L w n t a.tmps) {x : Option Operand} {e : Option EO} (h : cOpt n x = some e) : BRep L w (e.map (·.get t)) (x.map a.eval) := by
  cases x with
  | none => simp [cOpt] at h; subst h; trivial
  | some x =>
    simp only [cOpt, Option.map_eq_some_iff] at h
    obtain ⟨y, h1, rfl⟩ := h
    exact cOpd_rep r h1

theorem compParts_spec {L : Loc} {w : World} {n : Nat} {t : Nat → V} {a : Act} (r : TRel L w n t a.tmps) {place : Nat → Option (Nat × Nat)} : ∀ (ps : List (Nat × Operand)) (qs : List (Nat × Nat × EO)), compParts n place ps = some qs →
    PRep L w place (qs.map fun p => (p.1, p.2.1, p.2.2.get t)) (ps.map fun p => (p.1, a.eval p.2))
  | [], qs, h => by simp [compParts, mapAll] at h; subst h; trivial
  | (i, x) :: ps, qs, h => by
    simp only [compParts, mapAll] at h
    split at h
    · rename_i y ys h1 h2
      injection h with h; subst h
      split at h1
      · rename_i q z g1 g2
        injection h1 with h1; subst h1
        exact ⟨g1, cOpd_rep r g2, compParts_spec r ps ys h2⟩
      · cases h1
    · cases h

theorem partsS_spec {L : Loc} {w : World} {n : Nat} {t : Nat → V} {a : Act} (r : TRel L w n t a.tmps) : ∀ (ps : List (Nat × Operand)) (qs : List (Nat × EO)), mapAll (fun p : Nat × Operand => (cOpd n p.2).map fun x => (p.1, x)) ps = some qs →
    SRep L w (qs.map fun p => (p.1, p.2.get t)) (ps.map fun p => (p.1, a.eval p.2))
  | [], qs, h => by simp [mapAll] at h; subst h; trivial
  | (i, x) :: ps, qs, h => by
    simp only [mapAll] at h
    split at h
    · rename_i y ys h1 h2
      injection h with h; subst h
      simp only [Option.map_eq_some_iff] at h1
      obtain ⟨z, g1, rfl⟩ := h1
      exact ⟨rfl, cOpd_rep r g1, partsS_spec r ps ys h2⟩
    · cases h

theorem caps_spec {L : Loc} {w : World} {n : Nat} {t : Nat → V} {a : Act} (r : TRel L w n t a.tmps) {xs : List Operand} {ys : List EO} (h : mapAll (cOpd n) xs = some ys) :
    (xs.toArray.map a.eval).size = (ys.map (·.get t)).length ∧ ∀ k c, (ys.map (·.get t))[k]? = some c → Rep L w c ((xs.toArray.map a.eval).getD k undef) := by
  obtain ⟨g1, g2⟩ := mapAll_get h
  refine ⟨by simp [g1], fun k c hk => ?_⟩
  simp only [List.getElem?_map, Option.map_eq_some_iff] at hk
  obtain ⟨y, hy, rfl⟩ := hk
  obtain ⟨x, q1, q2⟩ := g2 k y hy
  have : (xs.toArray.map a.eval).getD k undef = a.eval x := by
    rw [Array.getD_eq_getD_getElem?]
    simp [q1]
  rw [this]
  exact cOpd_rep r q2

end Go.Proofs.Ytdcdmpgigmhhpaa.E
