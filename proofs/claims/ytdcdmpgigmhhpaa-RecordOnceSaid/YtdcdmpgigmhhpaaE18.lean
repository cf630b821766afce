/- The layer E, part 18: a function's code with all looked up ahead; what it must bring ('wpC'), and that this is so of the code. No condition. -/
import Derived.Test.YtdcdmpgigmhhpaaE17
import Derived.BigCall
import Derived.KernelRfl
import Derived.Laws.Externs
namespace Go.Proofs.Ytdcdmpgigmhhpaa.E
set_option linter.unusedSimpArgs false
set_option linter.unusedVariables false

/-! ### Calls, by what they bring -/
def ARep (L : Loc) (w : World) (vs : List V) (xs : Array Value) : Prop := xs.size = vs.length ∧ ∀ k v, vs[k]? = some v → Rep L w v (xs.getD k undef)

/-- What a call of 'f' with these arguments and this memory brings: it returns, and so that 'R'. -/
def CE (P : Program) (f : FuncId) (args : List V) (h : List Ob) (R : V → List Ob → Prop) : Prop :=
  ∀ L w xs, ARep L w args xs → HRel L h w → Calls P f xs w fun e w' => ∃ x v h' L', e = .returned x ∧ R v h' ∧ Rep L' w' v x ∧ HRel L' h' w' ∧ Fr (Own L) w w' ∧ Ext L w L'

theorem CE.mono {P : Program} {f : FuncId} {args : List V} {h : List Ob} {R R' : V → List Ob → Prop} (c : CE P f args h R) (hr : ∀ v h', R v h' → R' v h') : CE P f args h R' :=
  fun L w xs a H => (c L w xs a H).mono fun e w' ⟨x, v, h', L', h1, h2, rest⟩ => ⟨x, v, h', L', h1, hr _ _ h2, rest⟩

def entersB (P : Program) (f : FuncId) : Bool := match P.funcs[f]? with
  | some fn => fn.name != "runtime.NumGoroutine" && fn.body.isSome
  | none => false

theorem run_callFunc_enters {P : Program} {f : FuncId} (h : entersB P f = true) (args : Array Value) (w : World) : (callFunc f args).run P w = .ok (.enter f args) w := by
  unfold entersB at h
  split at h
  · rename_i fn hfn
    simp only [Bool.and_eq_true, bne_iff_ne, ne_eq, Option.isSome_iff_ne_none] at h
    cases hb : fn.body with
    | none => exact absurd hb h.2
    | some c => simp [callFunc, hfn, h.1, hb]
  · cases h

/-! ### Code -/
inductive EA where
  | op (o : EOp)
  | call (f : FuncId) (args : List EO)
  | callv (fv : EO) (args : List EO)
  | nextM (x : EO)
  | bad
  deriving Inhabited, Repr

/-- An operation. -/
structure EG where
  dst : Option Nat
  guard : Option (Nat × Bool)
  act : EA
  deriving Inhabited, Repr

/-- An operation; 're': what read memory ahead of it, in whatever order, and must find there the same behind it. -/
structure EI where
  dst : Option Nat
  guard : Option (Nat × Bool)
  act : EA
  re : List EG
  deriving Inhabited, Repr

inductive EX where
  | normal
  | exit (id : Nat)
  | ret
  deriving DecidableEq, Repr, Inhabited

def EX.up : EX → Exit
  | .normal => .normal
  | .exit id => .exit id
  | .ret => .ret

inductive EC where
  | skip
  | reg (l : List EI)
  | draw (ls : List (List EI))
  | seq (x y : EC)
  | cond (c : EO) (x y : EC)
  | block (id : Nat) (x : EC)
  | loop (x : EC)
  | exit (id : Nat)
  | ret
  deriving Inhabited, Repr

abbrev Post := EX → (Nat → V) → List Ob → Prop

def putT (t : Nat → V) (dst : Option Nat) (v : V) : Nat → V := match dst with
  | some d => upd t d v
  | none => t

def ifSome (o : Option (V × List Ob)) (k : V → List Ob → Prop) : Prop := match o with
  | some (v, h) => k v h
  | none => False

@[simp] theorem ifSome_some (v : V) (h : List Ob) (k : V → List Ob → Prop) : ifSome (some (v, h)) k = k v h := rfl

/-- Is the operation wanted. -/
def wantE (t : Nat → V) : Option (Nat × Bool) → Option Bool
  | none => some true
  | some (s, q) => match t s with
    | .bool b => some (b == q)
    | .tup [] => some false
    | _ => none

def wpA (P : Program) (x : EA) (t : Nat → V) (h : List Ob) (k : V → List Ob → Prop) : Prop := match x with
  | .op o => ifSome (evOp o t h) k
  | .call f args => CE P f (args.map (·.get t)) h k
  | .callv fv args => match fv.get t with
    | .fn f caps => entersB P f = true ∧ CE P f (args.map (·.get t) ++ caps) h k
    | _ => False
  | .nextM x => match evNextM h (x.get t) with
    | some outs => ∀ p, p ∈ outs → k p.1 p.2
    | none => False
  | .bad => False

/-- What an operation that only looks comes to. -/
def evG (g : EG) (t : Nat → V) (h : List Ob) : Option V := match wantE t g.guard with
  | some true => match g.act with
    | .op o => (evOp o t h).map (·.1)
    | _ => none
  | some false => some (.tup [])
  | none => none

def reck (g : EG) (t : Nat → V) (h : List Ob) : Prop := match g.dst with
  | some d => evG g t h = some (t d)
  | none => False

def andRe (gs : List EG) (t : Nat → V) (h : List Ob) (K : Prop) : Prop := match gs with
  | [] => K
  | g :: gs => reck g t h ∧ andRe gs t h K

def wpI (P : Program) (Q : Post) : List EI → (Nat → V) → List Ob → Prop
  | [], t, h => Q .normal t h
  | i :: rest, t, h => match wantE t i.guard with
    | some true => wpA P i.act t h fun v h' => andRe i.re (putT t i.dst v) h' (wpI P Q rest (putT t i.dst v) h')
    | some false => andRe i.re (putT t i.dst (.tup [])) h (wpI P Q rest (putT t i.dst (.tup [])) h)
    | none => False

def thenQ (next : (Nat → V) → List Ob → Prop) (Q : Post) : Post
  | .normal, t, h => next t h
  | e, t, h => Q e t h

def blockQ (id : Nat) (Q : Post) : Post
  | .exit j, t, h => if j = id then Q .normal t h else Q (.exit j) t h
  | e, t, h => Q e t h

def wpC (P : Program) : EC → Post → (Nat → V) → List Ob → Prop
  | .skip, Q, t, h => Q .normal t h
  | .reg l, Q, t, h => wpI P Q l t h
  | .draw ls, Q, t, h => ∀ l, l ∈ ls → wpI P Q l t h
  | .seq x y, Q, t, h => wpC P x (thenQ (fun t h => wpC P y Q t h) Q) t h
  | .cond c x y, Q, t, h => match c.get t with
    | .bool true => wpC P x Q t h
    | .bool false => wpC P y Q t h
    | _ => False
  | .block id x, Q, t, h => wpC P x (blockQ id Q) t h
  | .loop x, Q, t, h => ∃ I : Nat → (Nat → V) → List Ob → Prop, (∃ m, I m t h) ∧ ∀ m t h, I m t h → wpC P x (thenQ (fun t' h' => ∃ m', m' < m ∧ I m' t' h') Q) t h
  | .exit id, Q, t, h => Q (.exit id) t h
  | .ret, Q, t, h => Q .ret t h

/-! ### From the program's code -/
/-- What has no body and is known. -/
def xkOf (P : Program) (f : FuncId) : Nat := match P.funcs[f]? with
  | some fn => if fn.body.isNone && fn.origin == "" then
      (if fn.name = "internal/bytealg.Compare" then 1 else if fn.name = "internal/bytealg.IndexByteString" ∨ fn.name = "internal/bytealg.IndexByte" then 2 else 0) else 0
  | none => 0

def compX (n : Nat) (k : Nat) (xs : List Operand) : Option EA := match k, xs with
  | 1, [x, y] => match cOpd n x, cOpd n y with
    | some x, some y => some (.op (.cmpB x y))
    | _, _ => none
  | 2, [x, y] => match cOpd n x, cOpd n y with
    | some x, some y => some (.op (.idxB x y))
    | _, _ => none
  | _, _ => none

def compAct (P : Program) (n : Nat) (o : Op) : Option EA := match o with
  | .call { callee := .value (.func f), args, argTypes := _ } => if entersB P f then (mapAll (cOpd n) args.toList).map (.call f) else compX n (xkOf P f) args.toList
  | .call { callee := .value (.tmp i), args, argTypes := _ } => if i < n then (mapAll (cOpd n) args.toList).map (.callv (.t i)) else none
  | .next x false => (cOpd n x).map .nextM
  | o => (compOp P n o).map .op

def compGuard (n : Nat) (ops : Array Oper) : Option (Nat × Bool) → Option (Option (Nat × Bool))
  | none => some none
  | some (j, q) => match (ops[j]?).bind (·.dst) with
    | some s => if s < n then some (some (s, q)) else none
    | none => none

def compActB (P : Program) (n : Nat) (o : Op) : EA := (compAct P n o).getD .bad

def compG (P : Program) (n : Nat) (ops : Array Oper) (o : Oper) : Option EG := (compGuard n ops o.guard).map fun g => ⟨o.dst, g, compActB P n o.op⟩

def compI (P : Program) (n : Nat) (ops : Array Oper) : List Nat → Option (List EI)
  | [] => some []
  | i :: rest => match ops[i]? with
    | none => none
    | some o => match compG P n ops o, compI P n ops rest with
      | some g, some l => some (⟨g.dst, g.guard, g.act, []⟩ :: l)
      | _, _ => none

/-- All the orders that a drawn one may be. -/
def allGo (m : Region.Mode) (ops : Array Oper) : Nat → Array Bool → List Nat → List (List Nat)
  | 0, _, acc => [acc.reverse]
  | fuel + 1, listed, acc =>
    let rs := (List.range ops.size).filter fun i =>
      !listed.getD i true && ((ops[i]?).map (·.after.all fun e => !Region.binds m e || listed.getD e.on false)).getD false
    if rs.isEmpty then [acc.reverse] else rs.flatMap fun i => allGo m ops fuel (listed.setIfInBounds i true) (i :: acc)

theorem linearise_mem (m : Region.Mode) (ops : Array Oper) : ∀ (fuel t : Nat) (listed : Array Bool) (acc : List Nat), Region.linearise.go m ops fuel t listed acc ∈ allGo m ops fuel listed acc
  | 0, t, listed, acc => by simp [Region.linearise.go, allGo]
  | fuel + 1, t, listed, acc => by
    simp only [Region.linearise.go, allGo]
    generalize hrs : ((List.range ops.size).filter fun i => !listed.getD i true && ((ops[i]?).map (·.after.all fun e => !Region.binds m e || listed.getD e.on false)).getD false) = rs
    cases rs with
    | nil => simp
    | cons r rs =>
      have hl : t % (r :: rs).length < (r :: rs).length := Nat.mod_lt _ (by simp)
      simp only [List.isEmpty_cons, Bool.false_eq_true, if_false, List.getElem?_eq_getElem hl]
      exact List.mem_flatMap.2 ⟨_, List.getElem_mem hl, linearise_mem m ops fuel _ _ _⟩

def ordersOf (P : Program) (ops : Array Oper) : List (List Nat) :=
  let z := Array.replicate ops.size false
  if P.follows .mixedOrders || !Region.departs ops then allGo .any ops ops.size z []
  else allGo .text ops ops.size z [] ++ allGo .gc ops ops.size z []

theorem schedule_mem (P : Program) (ops : Array Oper) (t : Nat) : Region.schedule (P.follows .mixedOrders) ops t ∈ ordersOf P ops := by
  unfold Region.schedule ordersOf
  split
  · rename_i hq
    simp only [hq, if_true]
    exact linearise_mem _ _ _ _ _ _
  · rename_i hq
    simp only [hq]
    refine List.mem_append.2 ?_
    split
    · exact .inl (linearise_mem _ _ _ _ _ _)
    · exact .inr (linearise_mem _ _ _ _ _ _)

/-! ### It is so of the code -/
def up (n : Nat) (Q : Post) (L : Loc) (w : World) : Exit → Act → World → Prop := fun e a' w' =>
  ∃ x t' h' L', e = x.up ∧ Q x t' h' ∧ TRel L' w' n t' a'.tmps ∧ a'.defers = [] ∧ HRel L' h' w' ∧ Fr (Own L) w w' ∧ Ext L w L'

theorem up_trans {n : Nat} {Q : Post} {L L₁ : Loc} {w w₁ : World} (fr : Fr (Own L) w w₁) (ex : Ext L w L₁) {e : Exit} {a : Act} {w' : World} (u : up n Q L₁ w₁ e a w') : up n Q L w e a w' := by
  obtain ⟨x, t', h', L', h1, h2, h3, h4, h5, h6, h7⟩ := u
  exact ⟨x, t', h', L', h1, h2, h3, h4, h5, fr.trans ex h6, ex.trans h7 fr.size⟩

theorem arep_of {L : Loc} {w : World} {n : Nat} {t : Nat → V} {a : Act} (r : TRel L w n t a.tmps) {xs : Array Operand} {ys : List EO} (h : mapAll (cOpd n) xs.toList = some ys) : ARep L w (ys.map (·.get t)) (xs.map a.eval) := by
  obtain ⟨g1, g2⟩ := caps_spec r h
  have : xs.toList.toArray.map a.eval = xs.map a.eval := by simp
  rw [this] at g1 g2
  exact ⟨g1, g2⟩

theorem ARep.append {L : Loc} {w : World} {us vs : List V} {xs ys : Array Value} (hx : ARep L w us xs) (hy : ARep L w vs ys) : ARep L w (us ++ vs) (xs ++ ys) := by
  refine ⟨by simp [hx.1, hy.1], fun k v hk => ?_⟩
  rw [Array.getD_eq_getD_getElem?, Array.getElem?_append]
  rw [List.getElem?_append] at hk
  rw [hx.1]
  split at hk
  · rename_i q; rw [if_pos q, ← Array.getD_eq_getD_getElem?]; exact hx.2 k v hk
  · rename_i q; rw [if_neg q, ← Array.getD_eq_getD_getElem?]; exact hy.2 _ v hk

theorem put_tmps (a : Act) (dst : Option Tmp) (v : Value) : (a.put dst v).defers = a.defers := by cases dst <;> rfl

theorem TRel.put {L : Loc} {w : World} {n : Nat} {t : Nat → V} {a : Act} (r : TRel L w n t a.tmps) {dst : Option Nat} {v : V} {x : Value} (hv : Rep L w v x) : TRel L w n (putT t dst v) (a.put dst x).tmps := by
  cases dst with
  | none => exact r
  | some d => exact TRel.upd r hv

theorem want_spec {L : Loc} {w : World} {n : Nat} {t : Nat → V} {a : Act} (r : TRel L w n t a.tmps) {ops : Array Oper} {o : Oper} {g : Option (Nat × Bool)} (hg : compGuard n ops o.guard = some g) {b : Bool} (hw : wantE t g = some b) :
    Region.wanted o (yielded ops a.tmps) = b := by
  unfold compGuard at hg
  unfold Region.wanted
  split at hg
  · injection hg with hg; subst hg
    simp only [wantE, Option.some.injEq] at hw
    subst hw
    rename_i hq
    rw [hq]
  · rename_i j q hq
    rw [hq]
    split at hg
    · rename_i s hs
      split at hg
      · rename_i hsn
        injection hg with hg; subst hg
        have rs := r.2 s hsn
        have hsz : s < a.tmps.size := by rw [r.1]; exact hsn
        have hy : yielded ops a.tmps j = match a.tmps.getD s undef with | .bool b => some b | _ => none := by
          unfold yielded
          rw [hs]
          simp only [Option.bind_some, Array.getElem?_eq_getElem hsz]
          have : a.tmps.getD s undef = a.tmps[s] := by simp [Array.getD, hsz]
          rw [this]
          cases a.tmps[s] <;> rfl
        simp only [hy]
        simp only [wantE] at hw
        split at hw
        · rename_i b' hb
          injection hw with hw; subst hw
          rw [hb] at rs
          generalize a.tmps.getD s undef = z at rs
          cases rs
          cases b' <;> cases q <;> rfl
        · rename_i hb
          injection hw with hw; subst hw
          rw [hb] at rs
          generalize a.tmps.getD s undef = z at rs
          cases rs with
          | tup vs h1 h2 => cases q <;> rfl
        · cases hw
      · cases hg
    · cases hg

theorem find_cmp {fn : Func} (h1 : fn.name = "internal/bytealg.Compare") (h2 : fn.origin = "") : Extern.find fn = some Extern.BytealgCompare.compare ∧ Extern.findNext fn = none := by
  unfold Extern.find Extern.findNext
  simp only [h1, h2]
  have a1 : Extern.allGenericRows.lookup "internal/bytealg.Compare" = none := by kernel_rfl
  have a2 : Extern.allTypedRows.lookup "internal/bytealg.Compare" = none := by kernel_rfl
  have a3 : Extern.allRows.lookup "internal/bytealg.Compare" = some Extern.BytealgCompare.compare := by kernel_rfl
  have a4 : Extern.allNextRows.lookup "internal/bytealg.Compare" = none := by kernel_rfl
  have a5 : Extern.allNextRows.lookup "" = none := by kernel_rfl
  rw [a1, a2, a3, a4, a5]
  exact ⟨rfl, rfl⟩

theorem find_idx {fn : Func} (h1 : fn.name = "internal/bytealg.IndexByteString" ∨ fn.name = "internal/bytealg.IndexByte") (h2 : fn.origin = "") : Extern.find fn = some Extern.BytealgIndexByte.indexByte ∧ Extern.findNext fn = none := by
  have a5 : Extern.allNextRows.lookup "" = none := by kernel_rfl
  rcases h1 with h1 | h1
  · have a1 : Extern.allGenericRows.lookup "internal/bytealg.IndexByteString" = none := by kernel_rfl
    have a2 : Extern.allTypedRows.lookup "internal/bytealg.IndexByteString" = none := by kernel_rfl
    have a3 : Extern.allRows.lookup "internal/bytealg.IndexByteString" = some Extern.BytealgIndexByte.indexByte := by kernel_rfl
    have a4 : Extern.allNextRows.lookup "internal/bytealg.IndexByteString" = none := by kernel_rfl
    unfold Extern.find Extern.findNext
    simp only [h1, h2]
    rw [a1, a2, a3, a4, a5]
    exact ⟨rfl, rfl⟩
  · have a1 : Extern.allGenericRows.lookup "internal/bytealg.IndexByte" = none := by kernel_rfl
    have a2 : Extern.allTypedRows.lookup "internal/bytealg.IndexByte" = none := by kernel_rfl
    have a3 : Extern.allRows.lookup "internal/bytealg.IndexByte" = some Extern.BytealgIndexByte.indexByte := by kernel_rfl
    have a4 : Extern.allNextRows.lookup "internal/bytealg.IndexByte" = none := by kernel_rfl
    unfold Extern.find Extern.findNext
    simp only [h1, h2]
    rw [a1, a2, a3, a4, a5]
    exact ⟨rfl, rfl⟩

theorem xk_run {P : Program} {f : FuncId} {args : Array Value} {w : World} : (xkOf P f = 1 → (callFunc f args).run P w = ((Extern.BytealgCompare.compare args).run P w).andThen fun v w' => .ok (.value v) w') ∧
    (xkOf P f = 2 → (callFunc f args).run P w = ((Extern.BytealgIndexByte.indexByte args).run P w).andThen fun v w' => .ok (.value v) w') := by
  unfold xkOf
  cases hf : P.funcs[f]? with
  | none => simp
  | some fn =>
    simp only
    split
    · rename_i hb
      simp only [Bool.and_eq_true, beq_iff_eq] at hb
      split
      · rename_i hn
        obtain ⟨g1, g2⟩ := find_cmp hn hb.2
        exact ⟨fun _ => run_callFunc_extern hf (by rw [hn]; rfl) hb.1 g2 g1 args w, fun q => by simp at q⟩
      · split
        · rename_i hn
          obtain ⟨g1, g2⟩ := find_idx hn hb.2
          exact ⟨fun q => by simp at q, fun _ => run_callFunc_extern hf (by rcases hn with hn | hn <;> rw [hn] <;> rfl) hb.1 g2 g1 args w⟩
        · exact ⟨fun q => by simp at q, fun q => by simp at q⟩
    · exact ⟨fun q => by simp at q, fun q => by simp at q⟩

theorem compX_run {P : Program} {L : Loc} {h : List Ob} {w : World} (H : HRel L h w) {n : Nat} {t : Nat → V} {a : Act} (r : TRel L w n t a.tmps) {f : FuncId} {xs : List Operand} {x : EA} (hc : compX n (xkOf P f) xs = some x) :
    ∃ eo, x = .op eo ∧ ∀ v h', evOp eo t h = some (v, h') → ∃ y, (callFunc f (xs.map a.eval).toArray).run P w = .ok (.value y) w ∧ Rep L w v y ∧ h' = h := by
  unfold compX at hc
  split at hc
  · rename_i x y hk
    split at hc
    · rename_i x' y' h1 h2
      injection hc with hc; subst hc
      refine ⟨_, rfl, fun v h' he => ?_⟩
      simp only [evOp] at he
      split at he
      · rename_i l m q1 q2
        injection he with he; injection he with e1 e2; subst e1; subst e2
        refine ⟨_, ?_, .int _ _, rfl⟩
        rw [xk_run.1 hk]
        have := cmpB_run (P := P) H (cOpd_rep r h1) (cOpd_rep r h2) q1 q2
        simp only [List.map_cons, List.map_nil]
        rw [this]; rfl
      · cases he
    · cases hc
  · rename_i x y hk
    split at hc
    · rename_i x' y' h1 h2
      injection hc with hc; subst hc
      refine ⟨_, rfl, fun v h' he => ?_⟩
      simp only [evOp] at he
      split at he
      · rename_i l c q1 q2
        injection he with he; injection he with e1 e2; subst e1; subst e2
        refine ⟨_, ?_, .int _ _, rfl⟩
        rw [xk_run.2 hk]
        have r2 := cOpd_rep r h2
        rw [q2] at r2
        have e2 := r2.int_inv
        have := idxB_run (P := P) (c := c) H (cOpd_rep r h1) q1
        simp only [List.map_cons, List.map_nil]
        rw [e2, this]; rfl
      · cases he
    · cases hc
  · cases hc

theorem wpI_sound {P : Program} {n : Nat} {Q : Post} {ops : Array Oper} : ∀ (is : List Nat) (l : List EI), compI P n ops is = some l → ∀ (t : Nat → V) (h : List Ob), wpI P Q l t h →
    ∀ L w a, TRel L w n t a.tmps → a.defers = [] → HRel L h w → ∀ Qf : Exit → Act → World → Prop, (∀ e a' w', up n Q L w e a' w' → Qf e a' w') → wpOps P ops Qf is a w
  | [], l, hc, t, h, hq, L, w, a, r, hd, H, Qf, hQf => by
    simp [compI] at hc; subst hc
    exact hQf _ _ _ ⟨.normal, t, h, L, rfl, hq, r, hd, H, Fr.refl _ _, Ext.refl _ _⟩
  | i :: is, l, hc, t, h, hq, L, w, a, r, hd, H, Qf, hQf => by
    simp only [compI] at hc
    split at hc
    · cases hc
    · rename_i o ho
      split at hc
      · rename_i eg l' hG hl
        injection hc with hc; subst hc
        simp only [compG, Option.map_eq_some_iff] at hG
        obtain ⟨g, hg, rfl⟩ := hG
        simp only [wpOps, ho]
        simp only [wpI, andRe] at hq
        have next : ∀ {v : V} {h' : List Ob} {x : Value} {w' : World} {L' : Loc}, wpI P Q l' (putT t o.dst v) h' → Rep L' w' v x → HRel L' h' w' → Fr (Own L) w w' → Ext L w L' →
            wpOps P ops Qf is (a.put o.dst x) w' := by
          intro v h' x w' L' hk hr hH hf he
          exact wpI_sound is l' hl _ h' hk L' w' (a.put o.dst x) (TRel.put (r.step H hf he) hr) (by rw [put_tmps]; exact hd) hH Qf (fun e a' w'' u => hQf _ _ _ (up_trans hf he u))
        split at hq
        · rename_i hw
          rw [if_pos (want_spec r hg hw)]
          refine .inl ?_
          unfold Oper.wp
          obtain ⟨dst, op, ty, pos, after, guard⟩ := o
          simp only [compActB] at hq
          cases hx : compAct P n op with
          | none => rw [hx] at hq; exact hq.elim
          | some x =>
          rw [hx] at hq
          simp only [Option.getD_some] at hq
          unfold compAct at hx
          split at hx
          · rename_i f args ats
            split at hx
            · rename_i hen
              simp only [Option.map_eq_some_iff] at hx
              obtain ⟨ys, h1, rfl⟩ := hx
              simp only [wpA] at hq
              rw [execOp_call_go, run_callFunc_enters hen, Oper.upon_enter]
              refine (hq L w _ ?_ H).mono ?_
              · have := arep_of r h1
                simpa using this
              · rintro e w' ⟨x, v, h', L', rfl, hk, hr, hH, hf, he⟩
                exact next hk hr hH hf he
            · obtain ⟨eo, rfl, g⟩ := compX_run H r hx
              simp only [wpA, ifSome] at hq
              split at hq
              · rename_i v h' he
                obtain ⟨y, hrun, hr, rfl⟩ := g v h' he
                rw [execOp_call_go]
                have : args.toList.map a.eval = (args.map a.eval).toList := by simp
                rw [this] at hrun
                simp only [Array.toArray_toList] at hrun
                have h0 : (#[] ++ Array.map a.eval args ++ #[] : Array Value) = Array.map a.eval args := by simp
                rw [h0, hrun, Oper.upon_value]
                exact next hq hr H (Fr.refl _ _) (Ext.refl _ _)
              · exact hq.elim
          · rename_i k args ats
            split at hx
            · rename_i hkn
              simp only [Option.map_eq_some_iff] at hx
              obtain ⟨ys, h1, rfl⟩ := hx
              simp only [wpA] at hq
              have rk := r.2 k hkn
              simp only [EO.get_t] at hq
              split at hq
              · rename_i f caps hf
                obtain ⟨hen, hq⟩ := hq
                rw [hf] at rk
                have hev : a.eval (.tmp k) = a.tmps.getD k undef := rfl
                generalize hz : a.tmps.getD k undef = z at rk hev
                cases rk with
                | fn vs g1 g2 =>
                  have hrun : (execOp a.eval { dst := dst, op := .call { callee := .value (.tmp k), args := args, argTypes := ats }, type := ty, pos := pos, after := after, guard := guard }).run P w = .ok (.enter f (args.map a.eval ++ vs)) w := by
                    have : execOp a.eval { dst := dst, op := .call { callee := .value (.tmp k), args := args, argTypes := ats }, type := ty, pos := pos, after := after, guard := guard } =
                        (do let d ← Deferred.ofValue (a.eval (.tmp k)) (args.map a.eval); invoke d.target d.args) := rfl
                    rw [this, hev]
                    simp only [Deferred.ofValue, Sem.run_bind, Sem.run_pure, Result.andThen_ok, invoke]
                    rw [run_callFunc_enters hen]
                    simp
                  rw [hrun, Oper.upon_enter]
                  refine (hq L w _ ?_ H).mono ?_
                  · exact (arep_of r h1).append ⟨g1, g2⟩
                  · rintro e w' ⟨x, v, h', L', rfl, hk, hr, hH, hf, he⟩
                    exact next hk hr hH hf he
              · exact hq.elim
            · cases hx
          · rename_i x0
            simp only [Option.map_eq_some_iff] at hx
            obtain ⟨e, h1, rfl⟩ := hx
            simp only [wpA] at hq
            split at hq
            · rename_i outs he
              obtain ⟨p, hp, z, w', L', g1, g2, g3, g4, g5⟩ := nextM_good (P := P) (ty := ty) H (cOpd_rep r h1) he
              have hrun : (execOp a.eval ⟨dst, .next x0 false, ty, pos, after, guard⟩).run P w = .ok (.value z) w' := by
                have : execOp a.eval ⟨dst, .next x0 false, ty, pos, after, guard⟩ = (do pure (.value (← Instr.next (a.eval x0) false ty))) := rfl
                rw [this]
                simp [g1]
              rw [hrun, Oper.upon_value]
              exact next (hq p hp) g2 g3 g4 g5
            · exact hq.elim
          · simp only [Option.map_eq_some_iff] at hx
            obtain ⟨eo, h1, rfl⟩ := hx
            simp only [wpA, ifSome] at hq
            split at hq
            · rename_i v h' he
              obtain ⟨x, w', L', hrun, hr, hH, hf, hex⟩ := evOp_sound H r (o := ⟨dst, op, ty, pos, after, guard⟩) h1 he
              rcases hrun with hrun | ⟨hrun, rfl⟩
              · rw [hrun, Oper.upon_value]; exact next hq hr hH hf hex
              · rw [hrun, Oper.upon_skip]; exact next hq hr hH hf hex
            · exact hq.elim
        · rename_i hw
          rw [if_neg (by rw [want_spec r hg hw]; simp)]
          exact next hq undef_rep H (Fr.refl _ _) (Ext.refl _ _)
        · exact hq.elim
      · cases hc
end Go.Proofs.Ytdcdmpgigmhhpaa.E
