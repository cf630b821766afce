/- The layer E, part 3: the operations on values, and what they are of the program's own: comparisons, arithmetic, strings, fields. No condition. -/
import Derived.Test.YtdcdmpgigmhhpaaE2
import Derived.Laws.Entries
import Derived.Laws.StructEq
import Derived.Laws.Cover3
import Derived.Laws.Pointers
import Derived.WalkSpells
import Derived.Laws.BytesString
import Derived.Lib.ConvBytes
import Derived.Lib.Strings
import Derived.Lib.SmallJoins
namespace Go.Proofs.Ytdcdmpgigmhhpaa.E
set_option linter.unusedSimpArgs false
set_option linter.unusedVariables false

inductive EO where
  | t (i : Nat)
  | c (v : V)
  deriving Inhabited, Repr

def EO.get (t : Nat → V) : EO → V
  | .t i => t i
  | .c v => v

@[simp] theorem EO.get_t (t : Nat → V) (i : Nat) : (EO.t i).get t = t i := rfl
@[simp] theorem EO.get_c (t : Nat → V) (v : V) : (EO.c v).get t = v := rfl

def cOpd (n : Nat) : Operand → Option EO
  | .tmp i => if i < n then some (.t i) else none
  | .const v => (ofZero v).map .c
  | .func f => some (.c (.fn f []))
  | .global _ => none

theorem cOpd_rep {L : Loc} {w : World} {n : Nat} {t : Nat → V} {a : Act} (r : TRel L w n t a.tmps) {x : Operand} {e : EO} (h : cOpd n x = some e) : Rep L w (e.get t) (a.eval x) := by
  unfold cOpd at h
  split at h
  · split at h
    · rename_i i hi; injection h with h; subst h; exact r.2 i hi
    · cases h
  · rename_i v
    simp only [Option.map_eq_some_iff] at h
    obtain ⟨y, h1, rfl⟩ := h
    exact ofZero_rep h1
  · injection h with h; subst h; exact .fn #[] rfl (fun k c hk => by simp at hk)
  · cases h

theorem Rep.one {L : Loc} {w : World} {v : V} {x : Value} (h : Rep L w v x) (hs : v.scalar = true) : x.oneCell' = true := by
  cases h <;> first | rfl | (simp [V.scalar] at hs; done) | assumption

theorem cells_of_one {x : Value} (h : x.oneCell' = true) : x.cells = #[x] := by
  cases x <;> first | rfl | (simp [Value.oneCell'] at h)

theorem Rep.cells {L : Loc} {w : World} {v : V} {x : Value} (h : Rep L w v x) (hs : v.scalar = true ∨ ∃ cs, v = .agg cs) :
    x.cells.size = v.cells.length ∧ ∀ k c, v.cells[k]? = some c → Rep L w c (x.cells.getD k undef) := by
  rcases hs with hs | ⟨cs, rfl⟩
  · have h1 := cells_of_one (h.one hs)
    have h2 : v.cells = [v] := by cases v <;> first | rfl | (simp [V.scalar] at hs)
    rw [h1, h2]
    refine ⟨rfl, fun k c hk => ?_⟩
    cases k with
    | zero => simp at hk; subst hk; exact h
    | succ k => simp at hk
  · cases h with
    | agg vs hl hr => exact ⟨hl, hr⟩

/-- A run that leaves a value standing for 'v', and memory standing for 'h''. -/
def Good (P : Program) (L : Loc) (w : World) (s : Sem Value) (v : V) (h' : List Ob) : Prop :=
  ∃ x w' L', s.run P w = .ok x w' ∧ Rep L' w' v x ∧ HRel L' h' w' ∧ Fr (Own L) w w' ∧ Ext L w L'

theorem Good.same {P : Program} {L : Loc} {h : List Ob} {w : World} {s : Sem Value} {v : V} {x : Value} (H : HRel L h w) (hs : s.run P w = .ok x w) (r : Rep L w v x) : Good P L w s v h :=
  ⟨x, w, L, hs, r, H, Fr.refl _ _, Ext.refl _ _⟩

/-! ### Arithmetic and comparisons -/
def evInt (op : BinOp) (k : IntKind) (a b : Int) : Option V :=
  match op with
  | .add => some (.int k (k.wrap (a + b)))
  | .sub => some (.int k (k.wrap (a - b)))
  | .mul => some (.int k (k.wrap (a * b)))
  | .quo => if b = 0 then none else some (.int k (k.wrap (a.tdiv b)))
  | .rem => if b = 0 then none else some (.int k (a.tmod b))
  | .and => some (.int k (bits .and k a b))
  | .or => some (.int k (bits .or k a b))
  | .xor => some (.int k (bits .xor k a b))
  | .andNot => some (.int k (bits .andNot k a b))
  | .eql => some (.bool (a == b))
  | .neq => some (.bool (a != b))
  | .lss => some (.bool (decide (a < b)))
  | .leq => some (.bool (decide (a ≤ b)))
  | .gtr => some (.bool (decide (a > b)))
  | .geq => some (.bool (decide (a ≥ b)))
  | .shl | .shr => none

def evStr (op : BinOp) (a b : List UInt8) : Option V :=
  match op with
  | .add => if a.length + b.length < 9223372036854775808 then some (.str (a ++ b)) else none
  | .eql => some (.bool (a == b))
  | .neq => some (.bool (!(a == b)))
  | .lss => some (.bool (Op.bytesLess a b))
  | .leq => some (.bool (Op.bytesLess a b || a == b))
  | .gtr => some (.bool (!(Op.bytesLess a b || a == b)))
  | .geq => some (.bool (!Op.bytesLess a b))
  | _ => none

def evBin (op : BinOp) (x y : V) : Option V :=
  match x, y with
  | .int k a, .int k' b =>
    match op with
    | .shl => if b < 0 then none else some (.int k (k.wrap (a * 2 ^ (min b.toNat k.bits))))
    | .shr => if b < 0 then none else some (.int k (a.fdiv (2 ^ (min b.toNat k.bits))))
    | op => if k = k' then evInt op k a b else none
  | .str a, .str b => evStr op a b
  | _, _ => none

theorem evBin_good {P : Program} {L : Loc} {h : List Ob} {w : World} (H : HRel L h w) {op : BinOp} {t : TypeId} {x y v : V} {a b : Value} (ha : Rep L w x a) (hb : Rep L w y b)
    (he : evBin op x y = some v) : Good P L w (binOp op t a b) v h := by
  unfold evBin at he
  split at he
  · rename_i k m k' n
    cases ha; cases hb
    cases op <;> simp only [] at he
    case shl =>
      split at he
      · cases he
      · rename_i hn
        injection he with he; subst he
        exact .same H (by simp [binOp, Op.shift, hn]) (.int _ _)
    case shr =>
      split at he
      · cases he
      · rename_i hn
        injection he with he; subst he
        exact .same H (by simp [binOp, Op.shift, hn]) (.int _ _)
    all_goals
      split at he
      · rename_i hk
        subst hk
        simp only [evInt] at he
        first
        | (injection he with he; subst he
           first
           | exact .same H (by simp [binOp, Op.intArith, Op.intCmp, intBits_and, intBits_or, intBits_xor, intBits_andNot]) (.int _ _)
           | exact .same H (by simp [binOp, Op.intArith, Op.intCmp]) (.bool _))
        | (split at he
           · cases he
           · rename_i hz
             injection he with he; subst he
             exact .same H (by simp [binOp, Op.intDiv, hz]) (.int _ _))
      · cases he
  · rename_i l m
    cases ha; cases hb
    have hl : (⟨l.toArray⟩ : ByteArray).toList = l := ByteArray.toList_mk l
    have hm : (⟨m.toArray⟩ : ByteArray).toList = m := ByteArray.toList_mk m
    have sl : (⟨l.toArray⟩ : ByteArray).size = l.length := by simp [ByteArray.size]
    have sm : (⟨m.toArray⟩ : ByteArray).size = m.length := by simp [ByteArray.size]
    cases op <;> simp only [evStr] at he <;> first | (cases he; done) | skip
    case add =>
      split at he
      · rename_i hlt
        injection he with he; subst he
        refine .same H (x := .string ⟨(l ++ m).toArray⟩) ?_ (.str _)
        have hmax : ¬ (((⟨l.toArray⟩ : ByteArray).size + (⟨m.toArray⟩ : ByteArray).size : Nat) : Int) > IntKind.i64.max := by
          rw [sl, sm]
          simp [IntKind.max, IntKind.signed, IntKind.bits]
          omega
        simp only [binOp, Op.stringOp, if_neg hmax, Sem.run_pure, ByteArray.mk_append_mk, List.append_toArray]
      · cases he
    all_goals
      injection he with he; subst he
      exact .same H (by simp only [binOp, Op.stringOp, hl, hm, Sem.run_pure]) (.bool _)
  · cases he

theorem run_eqGuard_plain {P : Program} (w : World) (op : BinOp) (t : TypeId) (x y : Operand) (a b : Value) (h : ¬ ∃ cs ds, a = .agg cs ∧ b = .agg ds) (h' : ¬ (a = .nilIface ∧ b = .nilIface)) : (eqGuard op t x y a b).run P w = .ok () w := by
  unfold eqGuard
  cases op <;> first | rfl | skip
  all_goals
    cases a <;> cases b <;> first | rfl | exact absurd ⟨rfl, rfl⟩ h' | exact absurd ⟨_, _, rfl, rfl⟩ h

/-- The kinds of plain values. -/
inductive LK where
  | i | s | b
  deriving DecidableEq, Repr

inductive EqT where
  | bool | ptr | slice | map | func
  | struct (n : Nat) (leaves : List (Nat × LK))
  deriving DecidableEq, Repr

def aliveB (h : List Ob) (id : Nat) : Bool :=
  match h[id]? with
  | some .dead => false
  | some _ => true
  | none => false

theorem alive_at {L : Loc} {h : List Ob} {w : World} (H : HRel L h w) {id : Nat} (ha : aliveB h id = true) : ∃ p, L.at_ id = some p := by
  unfold aliveB at ha
  split at ha
  · cases ha
  · rename_i ob hob hne
    have := H.obs id _ hne
    cases ob with
    | row es sz => obtain ⟨b, base, _, _, _, h1, _⟩ := this; exact ⟨_, h1⟩
    | map e c => obtain ⟨b, base, sz, _, h1, _⟩ := this; exact ⟨_, h1⟩
    | siter l p => obtain ⟨b, sz, h1, _⟩ := this; exact ⟨_, h1⟩
    | miter m s e d => obtain ⟨b, sz, mb, h1, _⟩ := this; exact ⟨_, h1⟩
    | dead => exact absurd rfl hob
  · cases ha

/-- Is it nil? -/
def isNil (h : List Ob) : EqT → V → Option Bool
  | .ptr, .nilp => some true
  | .ptr, .ptr id _ _ => if aliveB h id then some false else none
  | .ptr, .ref _ _ => some false
  | .slice, .nils => some true
  | .slice, .hsl id _ _ => if aliveB h id then some false else none
  | .slice, .sl _ => some false
  | .slice, .esl => some false
  | .map, .nilm => some true
  | .map, .mp id => if aliveB h id then some false else none
  | .func, .nilf => some true
  | .func, .fn _ _ => some false
  | _, _ => none

def eqAt : LK → Option V → Option V → Option Bool
  | .i, some (.int k a), some (.int k' b) => if k = k' then some (a == b) else none
  | .s, some (.str a), some (.str b) => some (a == b)
  | .b, some (.bool a), some (.bool b) => some (a == b)
  | _, _, _ => none

def eqLeaves (cs ds : List V) : List (Nat × LK) → Option Bool
  | [] => some true
  | (o, k) :: ls => match eqAt k cs[o]? ds[o]? with
    | some true => eqLeaves cs ds ls
    | some false => some false
    | none => none

def evEq (h : List Ob) (T : EqT) (x y : V) : Option Bool :=
  match T, x, y with
  | .bool, .bool a, .bool b => some (a == b)
  | .struct n ls, .agg cs, .agg ds => if cs.length = n ∧ ds.length = n then eqLeaves cs ds ls else none
  | .bool, _, _ => none
  | .struct _ _, _, _ => none
  | T, x, y => match isNil h T x, isNil h T y with
    | some true, some b => some b
    | some b, some true => some b
    | _, _ => none

def leavesAll (f : Field → Option (List (Nat × LK))) : List Field → Option (List (Nat × LK))
  | [] => some []
  | g :: gs => if g.name = "_" then leavesAll f gs else match f g, leavesAll f gs with
    | some a, some b => some (a ++ b)
    | _, _ => none

/-- The places of the plain values in a struct that is compared by '=='. -/
def leavesOf (P : Program) : Nat → TypeId → Option (List (Nat × LK))
  | 0, _ => none
  | d + 1, t => match P.underlying t with
    | some .bool => if P.cellsOf t = 1 then some [(0, .b)] else none
    | some (.int _) => if P.cellsOf t = 1 then some [(0, .i)] else none
    | some .string => if P.cellsOf t = 1 then some [(0, .s)] else none
    | some (.struct fs) => if P.stoodInHeld t then none else
        leavesAll (fun g => match P.info? g.type, leavesOf P d g.type with
          | some i, some ls => if ls.all (·.1 < i.size) ∧ g.offset + i.size ≤ P.cellsOf t then some (ls.map fun p => (g.offset + p.1, p.2)) else none
          | _, _ => none) fs.toList
    | _ => none

theorem eqLeaves_append (cs ds : List V) : ∀ (a b : List (Nat × LK)), eqLeaves cs ds (a ++ b) = (match eqLeaves cs ds a with | some true => eqLeaves cs ds b | x => x)
  | [], b => by simp [eqLeaves]
  | (o, k) :: a, b => by
    simp only [List.cons_append, eqLeaves]
    cases eqAt k cs[o]? ds[o]? with
    | none => rfl
    | some r => cases r with
      | true => exact eqLeaves_append cs ds a b
      | false => rfl

theorem eqLeaves_shift (cs ds : List V) (off n : Nat) : ∀ (ls : List (Nat × LK)), (ls.all (·.1 < n)) = true →
    eqLeaves cs ds (ls.map fun p => (off + p.1, p.2)) = eqLeaves ((cs.drop off).take n) ((ds.drop off).take n) ls
  | [], _ => rfl
  | (o, k) :: ls, h => by
    simp only [List.all_cons, Bool.and_eq_true, decide_eq_true_eq] at h
    simp only [List.map_cons, eqLeaves]
    have e1 : ((cs.drop off).take n)[o]? = cs[off + o]? := by rw [List.getElem?_take, if_pos h.1, List.getElem?_drop]
    have e2 : ((ds.drop off).take n)[o]? = ds[off + o]? := by rw [List.getElem?_take, if_pos h.1, List.getElem?_drop]
    rw [e1, e2, eqLeaves_shift cs ds off n ls h.2]

/-- A value as its cells say, by what its type is. -/
def isStruct (P : Program) (t : TypeId) : Bool := match P.underlying t with
  | some (.struct _) => true
  | some (.array _ _) => true
  | _ => false

theorem run_isAgg {P : Program} (w : World) {t : TypeId} (h : (P.underlying t).isSome = true) : (isAgg t).run P w = .ok (isStruct P t) w := by
  unfold isAgg isStruct
  obtain ⟨d, hd⟩ := Option.isSome_iff_exists.1 h
  simp only [Sem.run_bind, run_underlying hd, Result.andThen_ok, hd]
  cases d <;> rfl

theorem run_sizeOf {P : Program} (w : World) {t : TypeId} {i : TypeInfo} (h : P.info? t = some i) : (sizeOf t).run P w = .ok i.size w := by
  simp [sizeOf, typeInfo, h]

theorem underlying_some {P : Program} {t : TypeId} {i : TypeInfo} (h : P.info? t = some i) (hn : ∀ n u, i.desc ≠ .named n u) : P.underlying t = some i.desc := by
  unfold Program.underlying
  rw [h]
  cases i with
  | mk desc => cases desc <;> first | rfl | exact absurd rfl (hn _ _)

/-- 'part' of cells. -/
theorem run_part {P : Program} {L : Loc} {w : World} {u : TypeId} {i : TypeInfo} {cs : List V} {xs : Array Value} (hl : xs.size = cs.length) (hr : ∀ k c, cs[k]? = some c → Rep L w c (xs.getD k undef))
    (hi : P.info? u = some i) (hu : (P.underlying u).isSome = true) (off : Nat) :
    (isStruct P u = true → off + i.size ≤ cs.length → ∃ ys, (part u xs off).run P w = .ok (.agg ys) w ∧ ys.size = ((cs.drop off).take i.size).length ∧ ∀ k c, ((cs.drop off).take i.size)[k]? = some c → Rep L w c (ys.getD k undef)) ∧
    (isStruct P u = false → ∀ c, cs[off]? = some c → ∃ y, (part u xs off).run P w = .ok y w ∧ Rep L w c y) := by
  refine ⟨fun h hb => ⟨xs.extract off (off + i.size), ?_, ?_, ?_⟩, fun h c hc => ?_⟩
  · simp only [part, Sem.run_bind, run_isAgg w hu, h, Result.andThen_ok, if_true, run_sizeOf w hi, Sem.run_pure]
  · simp [hl]; omega
  · intro k c hk
    rw [List.getElem?_take] at hk
    split at hk
    · rename_i hlt
      rw [List.getElem?_drop] at hk
      have := hr _ _ hk
      have e : (xs.extract off (off + i.size)).getD k undef = xs.getD (off + k) undef := by
        rw [Array.getD_eq_getD_getElem?, Array.getD_eq_getD_getElem?, Array.getElem?_extract]
        rw [if_pos (by omega)]
      rw [e]; exact this
    · cases hk
  · have hlt : off < xs.size := by
      rw [hl]
      exact (List.getElem?_eq_some_iff.1 hc).1
    have hx : xs[off]? = some xs[off] := by simp [hlt]
    refine ⟨xs[off], ?_, ?_⟩
    · simp only [part, Sem.run_bind, run_isAgg w hu, h, Result.andThen_ok, Bool.false_eq_true, if_false, hx, Sem.run_pure]
    · have := hr _ _ hc
      rwa [Array.getD_eq_getD_getElem?, hx] at this

/-- A value 'a' of type t whose cells stand for 'cs'. -/
def CellsOf (P : Program) (L : Loc) (w : World) (t : TypeId) (cs : List V) (a : Value) : Prop :=
  (isStruct P t = true ∧ cs.length = P.cellsOf t ∧ ∃ xs : Array Value, a = .agg xs ∧ xs.size = cs.length ∧ ∀ k c, cs[k]? = some c → Rep L w c (xs.getD k undef)) ∨
  (isStruct P t = false ∧ ∃ c, cs = [c] ∧ Rep L w c a)

theorem eqLeaves_one (cs ds : List V) (k : LK) (r : Bool) (h : eqLeaves cs ds [(0, k)] = some r) : eqAt k cs[0]? ds[0]? = some r := by
  simp only [eqLeaves] at h
  split at h <;> simp_all

theorem run_equalIn_leaves {P : Program} {L : Loc} {w : World} : ∀ (d : Nat) (t : TypeId) (D : Nat) (ls : List (Nat × LK)) (cs ds : List V) (a b : Value) (r : Bool),
    leavesOf P d t = some ls → CellsOf P L w t cs a → CellsOf P L w t ds b → eqLeaves cs ds ls = some r → (Op.equalIn (D + d) t a b).run P w = .ok r w
  | 0, t, D, ls, cs, ds, a, b, r, hl, _, _, _ => by simp [leavesOf] at hl
  | d + 1, t, D, ls, cs, ds, a, b, r, hl, ha, hb, he => by
    unfold leavesOf at hl
    split at hl
    · rename_i hu
      obtain ⟨_, rfl⟩ : P.cellsOf t = 1 ∧ ls = _ := by
        split at hl
        · rename_i q; exact ⟨q, (Option.some.inj hl).symm⟩
        · cases hl
      have hs : isStruct P t = false := by simp [isStruct, hu]
      rcases ha with ⟨h1, _⟩ | ⟨_, c, rfl, hc⟩
      · rw [hs] at h1; cases h1
      rcases hb with ⟨h1, _⟩ | ⟨_, c', rfl, hc'⟩
      · rw [hs] at h1; cases h1
      have he := eqLeaves_one _ _ _ _ he
      cases c <;> cases c' <;> simp [eqAt] at he
      cases hc; cases hc'; subst he
      exact run_equalIn_bool w (D + d) t _ _ hu
    · rename_i k hu
      obtain ⟨_, rfl⟩ : P.cellsOf t = 1 ∧ ls = _ := by
        split at hl
        · rename_i q; exact ⟨q, (Option.some.inj hl).symm⟩
        · cases hl
      have hs : isStruct P t = false := by simp [isStruct, hu]
      rcases ha with ⟨h1, _⟩ | ⟨_, c, rfl, hc⟩
      · rw [hs] at h1; cases h1
      rcases hb with ⟨h1, _⟩ | ⟨_, c', rfl, hc'⟩
      · rw [hs] at h1; cases h1
      have he := eqLeaves_one _ _ _ _ he
      cases c <;> cases c' <;> simp [eqAt] at he
      obtain ⟨rfl, rfl⟩ := he
      cases hc; cases hc'
      exact run_equalIn_int w (D + d) t _ _ _ _ hu
    · rename_i hu
      obtain ⟨_, rfl⟩ : P.cellsOf t = 1 ∧ ls = _ := by
        split at hl
        · rename_i q; exact ⟨q, (Option.some.inj hl).symm⟩
        · cases hl
      have hs : isStruct P t = false := by simp [isStruct, hu]
      rcases ha with ⟨h1, _⟩ | ⟨_, c, rfl, hc⟩
      · rw [hs] at h1; cases h1
      rcases hb with ⟨h1, _⟩ | ⟨_, c', rfl, hc'⟩
      · rw [hs] at h1; cases h1
      have he := eqLeaves_one _ _ _ _ he
      cases c <;> cases c' <;> simp [eqAt] at he
      cases hc; cases hc'; subst he
      rw [show D + (d + 1) = (D + d) + 1 from rfl, run_equalIn_string w (D + d) t _ _ hu, ByteArray.toList_mk, ByteArray.toList_mk]
    · rename_i fs hu
      have hs : isStruct P t = true := by simp [isStruct, hu]
      split at hl
      · cases hl
      rename_i hp
      obtain ⟨hlen, xs, rfl, hx, hxr⟩ : cs.length = P.cellsOf t ∧ ∃ xs : Array Value, a = .agg xs ∧ xs.size = cs.length ∧ ∀ k c, cs[k]? = some c → Rep L w c (xs.getD k undef) := by
        rcases ha with ⟨_, h⟩ | ⟨h1, _⟩
        · exact h
        · rw [hs] at h1; cases h1
      obtain ⟨hlen', ys, rfl, hy, hyr⟩ : ds.length = P.cellsOf t ∧ ∃ xs : Array Value, b = .agg xs ∧ xs.size = ds.length ∧ ∀ k c, ds[k]? = some c → Rep L w c (xs.getD k undef) := by
        rcases hb with ⟨_, h⟩ | ⟨h1, _⟩
        · exact h
        · rw [hs] at h1; cases h1
      have hf : P.fieldsOf t = fs := by simp [Program.fieldsOf, hu]
      rw [show D + (d + 1) = (D + d) + 1 from rfl, run_equalIn_struct w (D + d) t xs ys (by rw [hf]; exact hu) (by simpa using hp), hf]
      generalize fs.toList = l at hl
      clear hf hu hp
      induction l generalizing ls r with
      | nil =>
        simp only [leavesAll] at hl
        injection hl with hl; subst hl
        simp [eqLeaves] at he; subst he
        simp [Op.eqFields]
      | cons g gs ih =>
        simp only [leavesAll] at hl
        by_cases hn : g.name = "_"
        · rw [if_pos hn] at hl
          simp only [Op.eqFields]
          rw [if_neg (by simpa using hn)]
          exact ih ls r he hl
        · rw [if_neg hn] at hl
          split at hl
          · rename_i la lb h1 h2
            injection hl with hl; subst hl
            rw [eqLeaves_append] at he
            split at h1
            · rename_i i lg hi hlg
              split at h1
              · rename_i hall
                injection h1 with h1; subst h1
                rw [eqLeaves_shift cs ds g.offset i.size lg hall.1] at he
                simp only [Op.eqFields]
                rw [if_pos (by simpa using hn)]
                have hsu : (P.underlying g.type).isSome = true := by
                  cases d with
                  | zero => simp [leavesOf] at hlg
                  | succ d =>
                    unfold leavesOf at hlg
                    cases q : P.underlying g.type with
                    | some _ => rfl
                    | none => rw [q] at hlg; cases hlg
                have cells : ∀ (zs : Array Value) (es : List V), es.length = P.cellsOf t → zs.size = es.length → (∀ k c, es[k]? = some c → Rep L w c (zs.getD k undef)) →
                    ∃ u, (part g.type zs g.offset).run P w = .ok u w ∧ CellsOf P L w g.type ((es.drop g.offset).take i.size) u := by
                  intro zs es q1 q2 q3
                  have hco : P.cellsOf g.type = i.size := by simp [Program.cellsOf, hi]
                  have := run_part (P := P) q2 q3 hi hsu g.offset
                  by_cases hst : isStruct P g.type = true
                  · obtain ⟨us, g1, g2, g3⟩ := this.1 hst (by rw [q1]; exact hall.2)
                    refine ⟨_, g1, .inl ⟨hst, ?_, us, rfl, g2, g3⟩⟩
                    have := hall.2
                    simp [hco, q1]; omega
                  · have hst : isStruct P g.type = false := by simpa using hst
                    have h1 : i.size = 1 := by
                      cases d with
                      | zero => simp [leavesOf] at hlg
                      | succ d =>
                        unfold leavesOf at hlg
                        rw [hco] at hlg
                        split at hlg
                        · split at hlg
                          · assumption
                          · cases hlg
                        · split at hlg
                          · assumption
                          · cases hlg
                        · split at hlg
                          · assumption
                          · cases hlg
                        · rename_i q; simp [isStruct, q] at hst
                        · cases hlg
                    have hlt : g.offset < es.length := by rw [q1]; have := hall.2; omega
                    obtain ⟨u, g1, g2⟩ := this.2 hst es[g.offset] (by simp [hlt])
                    refine ⟨u, g1, .inr ⟨hst, es[g.offset], ?_, g2⟩⟩
                    rw [h1, List.drop_eq_getElem_cons hlt]; rfl
                obtain ⟨u, e1, c1⟩ := cells xs cs hlen hx hxr
                obtain ⟨u', e2, c2⟩ := cells ys ds hlen' hy hyr
                simp only [Sem.run_bind, e1, e2, Result.andThen_ok]
                cases hq : eqLeaves ((cs.drop g.offset).take i.size) ((ds.drop g.offset).take i.size) lg with
                | none => rw [hq] at he; cases he
                | some q =>
                  have := run_equalIn_leaves d g.type D lg _ _ u u' q hlg c1 c2 hq
                  rw [this]
                  rw [hq] at he
                  cases q with
                  | true =>
                    simp only [Result.andThen_ok]
                    simp
                    exact ih lb r he h2
                  | false =>
                    injection he with he; subst he
                    simp
              · cases h1
            · cases h1
          · cases hl
    · cases hl

end Go.Proofs.Ytdcdmpgigmhhpaa.E
