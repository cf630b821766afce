/- The layer E, part 19: a region whose order is drawn comes to what one order of it brings, where what looks is not disturbed. No condition. -/
import Derived.Test.YtdcdmpgigmhhpaaE18
namespace Go.Proofs.Ytdcdmpgigmhhpaa.E
set_option linter.unusedSimpArgs false
set_option linter.unusedVariables false

def Agree (t t' : Nat → V) (l : List Nat) : Prop := ∀ s, s ∈ l → t s = t' s

theorem agree_append {t t' : Nat → V} {a b : List Nat} : Agree t t' (a ++ b) ↔ Agree t t' a ∧ Agree t t' b :=
  ⟨fun h => ⟨fun s hs => h s (List.mem_append.2 (.inl hs)), fun s hs => h s (List.mem_append.2 (.inr hs))⟩, fun h s hs => (List.mem_append.1 hs).elim (h.1 s) (h.2 s)⟩

theorem Agree.symm {t t' : Nat → V} {l : List Nat} (h : Agree t t' l) : Agree t' t l := fun s hs => (h s hs).symm

def EO.rd : EO → List Nat
  | .t i => [i]
  | .c _ => []

def rdL : List EO → List Nat
  | [] => []
  | x :: xs => x.rd ++ rdL xs

def rdO : Option EO → List Nat
  | none => []
  | some x => x.rd

theorem EO.get_congr {t t' : Nat → V} {x : EO} (h : Agree t t' x.rd) : x.get t = x.get t' := by
  cases x with
  | t i => exact h i (by simp [EO.rd])
  | c v => rfl

theorem rdL_congr {t t' : Nat → V} : ∀ {xs : List EO}, Agree t t' (rdL xs) → xs.map (·.get t) = xs.map (·.get t')
  | [], _ => rfl
  | x :: xs, h => by
    obtain ⟨h1, h2⟩ := agree_append.1 h
    simp only [List.map_cons]
    rw [EO.get_congr h1, rdL_congr h2]

theorem rdO_congr {t t' : Nat → V} {x : Option EO} (h : Agree t t' (rdO x)) : x.map (·.get t) = x.map (·.get t') := by
  cases x with
  | none => rfl
  | some x => simp only [Option.map_some]; rw [EO.get_congr h]

theorem parts3_congr {t t' : Nat → V} : ∀ {xs : List (Nat × Nat × EO)}, Agree t t' (rdL (xs.map (·.2.2))) → xs.map (fun p => (p.1, p.2.1, p.2.2.get t)) = xs.map (fun p => (p.1, p.2.1, p.2.2.get t'))
  | [], _ => rfl
  | x :: xs, h => by
    obtain ⟨h1, h2⟩ := agree_append.1 h
    simp only [List.map_cons]
    rw [EO.get_congr h1, parts3_congr h2]

theorem parts2_congr {t t' : Nat → V} : ∀ {xs : List (Nat × EO)}, Agree t t' (rdL (xs.map (·.2))) → xs.map (fun p => (p.1, p.2.get t)) = xs.map (fun p => (p.1, p.2.get t'))
  | [], _ => rfl
  | x :: xs, h => by
    obtain ⟨h1, h2⟩ := agree_append.1 h
    simp only [List.map_cons]
    rw [EO.get_congr h1, parts2_congr h2]

def EOp.rd : EOp → List Nat
  | .mv x => x.rd
  | .pick c a b => c.rd ++ (a.rd ++ b.rd)
  | .alloc _ _ => []
  | .box _ x => x.rd
  | .build _ ps => rdL (ps.map (·.2.2))
  | .bslice _ _ _ ps => rdL (ps.map (·.2))
  | .load1 a => a.rd
  | .loadN _ a => a.rd
  | .store _ a x => a.rd ++ x.rd
  | .nilck x => x.rd
  | .bin _ x y => x.rd ++ y.rd
  | .eq _ _ x y => x.rd ++ y.rd
  | .un _ x => x.rd
  | .toInt _ x => x.rd
  | .strId x => x.rd
  | .toStr x => x.rd
  | .toBytes x => x.rd
  | .mkfn _ cs => rdL cs
  | .mkslice _ _ l c => l.rd ++ c.rd
  | .slcS x lo hi => x.rd ++ (rdO lo ++ rdO hi)
  | .slcL _ x lo hi mx => x.rd ++ (rdO lo ++ (rdO hi ++ rdO mx))
  | .slcA _ _ x lo hi => x.rd ++ (rdO lo ++ rdO hi)
  | .faddr _ x => x.rd
  | .field1 _ x => x.rd
  | .fieldN _ _ x => x.rd
  | .iaddrA _ _ x i => x.rd ++ i.rd
  | .iaddrL _ x i => x.rd ++ i.rd
  | .idxS x i => x.rd ++ i.rd
  | .ext _ x => x.rd
  | .lenS x => x.rd
  | .lenL x => x.rd
  | .app _ _ x y => x.rd ++ y.rd
  | .copy _ x y => x.rd ++ y.rd
  | .minmax _ x y => x.rd ++ y.rd
  | .mkmap => []
  | .lenM x => x.rd
  | .lookup _ _ _ m k => m.rd ++ k.rd
  | .mapupd _ m k v => m.rd ++ (k.rd ++ v.rd)
  | .delete _ m k => m.rd ++ k.rd
  | .appZ _ _ _ x n => x.rd ++ n.rd
  | .rangeS x => x.rd
  | .rangeM x => x.rd
  | .nextS x => x.rd
  | .idxA _ _ _ x i => x.rd ++ i.rd
  | .runeStr x => x.rd
  | .capL x => x.rd
  | .strish x => x.rd
  | .cmpB x y => x.rd ++ y.rd
  | .idxB x y => x.rd ++ y.rd
  | .clearL _ _ x => x.rd
  | .entry x => x.rd

theorem evOp_congr {t t' : Nat → V} {o : EOp} (g : Agree t t' o.rd) (h : List Ob) : evOp o t h = evOp o t' h := by
  cases o <;> simp only [EOp.rd, agree_append] at g
  case mv x => simp only [evOp, EO.get_congr g]
  case pick c a b => simp only [evOp, EO.get_congr g.1, EO.get_congr g.2.1, EO.get_congr g.2.2]
  case alloc => rfl
  case box x => simp only [evOp, EO.get_congr g]
  case build z ps => simp only [evOp, parts3_congr g]
  case bslice sz z len ps => simp only [evOp, parts2_congr g]
  case load1 x => simp only [evOp, EO.get_congr g]
  case loadN n x => simp only [evOp, EO.get_congr g]
  case store n a x => simp only [evOp, EO.get_congr g.1, EO.get_congr g.2]
  case nilck x => simp only [evOp, EO.get_congr g]
  case bin op x y => simp only [evOp, EO.get_congr g.1, EO.get_congr g.2]
  case eq ng T x y => simp only [evOp, EO.get_congr g.1, EO.get_congr g.2]
  case un op x => simp only [evOp, EO.get_congr g]
  case toInt k x => simp only [evOp, EO.get_congr g]
  case strId x => simp only [evOp, EO.get_congr g]
  case toStr x => simp only [evOp, EO.get_congr g]
  case toBytes x => simp only [evOp, EO.get_congr g]
  case mkfn f cs => simp only [evOp, rdL_congr g]
  case mkslice z b l c => simp only [evOp, EO.get_congr g.1, EO.get_congr g.2]
  case slcS x lo hi => simp only [evOp, EO.get_congr g.1, rdO_congr g.2.1, rdO_congr g.2.2]
  case slcL sz x lo hi mx => simp only [evOp, EO.get_congr g.1, rdO_congr g.2.1, rdO_congr g.2.2.1, rdO_congr g.2.2.2]
  case slcA n sz x lo hi => simp only [evOp, EO.get_congr g.1, rdO_congr g.2.1, rdO_congr g.2.2]
  case faddr off x => simp only [evOp, EO.get_congr g]
  case field1 off x => simp only [evOp, EO.get_congr g]
  case fieldN off n x => simp only [evOp, EO.get_congr g]
  case iaddrA n sz x i => simp only [evOp, EO.get_congr g.1, EO.get_congr g.2]
  case iaddrL sz x i => simp only [evOp, EO.get_congr g.1, EO.get_congr g.2]
  case idxS x i => simp only [evOp, EO.get_congr g.1, EO.get_congr g.2]
  case ext i x => simp only [evOp, EO.get_congr g]
  case lenS x => simp only [evOp, EO.get_congr g]
  case lenL x => simp only [evOp, EO.get_congr g]
  case app sz b x y => simp only [evOp, EO.get_congr g.1, EO.get_congr g.2]
  case copy sz x y => simp only [evOp, EO.get_congr g.1, EO.get_congr g.2]
  case minmax mx x y => simp only [evOp, EO.get_congr g.1, EO.get_congr g.2]
  case mkmap => rfl
  case lenM x => simp only [evOp, EO.get_congr g]
  case lookup kt z ok m k => simp only [evOp, EO.get_congr g.1, EO.get_congr g.2]
  case mapupd kt m k v => simp only [evOp, EO.get_congr g.1, EO.get_congr g.2.1, EO.get_congr g.2.2]
  case delete kt m k => simp only [evOp, EO.get_congr g.1, EO.get_congr g.2]
  case capL x => simp only [evOp, EO.get_congr g]
  case appZ sz b z x n => simp only [evOp, EO.get_congr g.1, EO.get_congr g.2]
  case strish x => simp only [evOp, EO.get_congr g]
  case rangeS x => simp only [evOp, EO.get_congr g]
  case nextS x => simp only [evOp, EO.get_congr g]
  case rangeM x => simp only [evOp, EO.get_congr g]
  case entry x => simp only [evOp, EO.get_congr g]
  case cmpB x y => simp only [evOp, EO.get_congr g.1, EO.get_congr g.2]
  case idxB x y => simp only [evOp, EO.get_congr g.1, EO.get_congr g.2]
  all_goals rfl

/-- 0: looks at no memory; 1: looks; 2: all else. -/
def EOp.kind : EOp → Nat
  | .mv _ | .pick .. | .build .. | .bin .. | .un .. | .toInt .. | .strId _ | .mkfn .. | .slcS .. | .field1 .. | .fieldN .. | .idxS .. | .ext .. | .lenS _ | .minmax .. => 0
  | .load1 _ | .loadN .. | .nilck _ | .eq .. | .toStr _ | .slcL .. | .slcA .. | .faddr .. | .iaddrA .. | .iaddrL .. | .lenL _ | .lenM _ | .lookup .. | .cmpB .. | .idxB .. | .entry .. => 1
  | _ => 2

theorem map_pair {o : Option V} {h h1 : List Ob} {v : V} (e : (o.map fun v => (v, h)) = some (v, h1)) : h1 = h ∧ ∀ h2 : List Ob, (o.map fun v => (v, h2)) = some (v, h2) := by
  cases o with
  | none => cases e
  | some u => simp at e; obtain ⟨rfl, rfl⟩ := e; exact ⟨rfl, fun _ => rfl⟩

theorem evOp_deaf {o : EOp} (k : o.kind = 0) {t : Nat → V} {h h1 : List Ob} {v : V} (e : evOp o t h = some (v, h1)) : h1 = h ∧ ∀ h2, evOp o t h2 = some (v, h2) := by
  cases o <;> simp only [EOp.kind] at k <;> first | (cases k; done) | skip
  case mv x => simp only [evOp, Option.some.injEq, Prod.mk.injEq] at e ⊢; exact ⟨e.2.symm, fun _ => by simp [e.1]⟩
  case pick c a b =>
    simp only [evOp] at e ⊢
    split at e
    · simp only [Option.some.injEq, Prod.mk.injEq] at e ⊢; exact ⟨e.2.symm, fun _ => by simp [e.1]⟩
    · cases e
  case build z ps =>
    simp only [evOp] at e ⊢
    cases hf : fillV z (ps.map fun p => (p.1, p.2.1, p.2.2.get t)) with
    | none => rw [hf] at e; cases e
    | some u => rw [hf] at e; simp at e; obtain ⟨rfl, rfl⟩ := e; exact ⟨rfl, fun _ => rfl⟩
  case bin op x y => exact map_pair e
  case un op x => exact map_pair e
  case toInt k x =>
    simp only [evOp] at e ⊢
    split at e
    · simp only [Option.some.injEq, Prod.mk.injEq] at e ⊢; exact ⟨e.2.symm, fun _ => by simp [e.1]⟩
    · cases e
  case strId x =>
    simp only [evOp] at e ⊢
    split at e
    · simp only [Option.some.injEq, Prod.mk.injEq] at e ⊢; exact ⟨e.2.symm, fun _ => by simp [e.1]⟩
    · cases e
  case mkfn f cs => simp only [evOp, Option.some.injEq, Prod.mk.injEq] at e ⊢; exact ⟨e.2.symm, fun _ => by simp [e.1]⟩
  case slcS x lo hi =>
    simp only [evOp] at e ⊢
    split at e
    · exact map_pair e
    · cases e
  case field1 off x => exact map_pair e
  case fieldN off n x => exact map_pair e
  case idxS x i =>
    simp only [evOp] at e ⊢
    split at e
    · exact map_pair e
    · cases e
  case ext i x => exact map_pair e
  case lenS x =>
    simp only [evOp] at e ⊢
    split at e
    · simp only [Option.some.injEq, Prod.mk.injEq] at e ⊢; exact ⟨e.2.symm, fun _ => by simp [e.1]⟩
    · cases e
  case minmax mx x y => exact map_pair e

theorem evOp_look {o : EOp} (k : o.kind = 1) {t : Nat → V} {h h1 : List Ob} {v : V} (e : evOp o t h = some (v, h1)) : h1 = h := by
  cases o <;> simp only [EOp.kind] at k <;> first | (cases k; done) | skip
  case load1 a => exact (map_pair e).1
  case loadN n a => exact (map_pair e).1
  case nilck a => exact (map_pair e).1
  case eq ng T x y =>
    simp only [evOp, Option.map_eq_some_iff, Prod.mk.injEq] at e
    obtain ⟨_, _, _, rfl⟩ := e; rfl
  case toStr a => exact (map_pair e).1
  case slcL sz x lo hi mx =>
    simp only [evOp] at e
    split at e
    · split at e
      · split at e
        · exact (map_pair e).1
        · cases e
      · cases e
    · split at e
      · exact (map_pair e).1
      · cases e
    · exact (map_pair e).1
  case slcA => exact (map_pair e).1
  case faddr off x =>
    simp only [evOp] at e
    split at e
    · split at e
      · simp at e; exact e.2.symm
      · cases e
    · simp at e; exact e.2.symm
    · cases e
  case iaddrA =>
    simp only [evOp] at e
    split at e
    · exact (map_pair e).1
    · cases e
  case iaddrL =>
    simp only [evOp] at e
    split at e
    · exact (map_pair e).1
    · cases e
  case lenL x =>
    simp only [evOp, Option.map_eq_some_iff, Prod.mk.injEq] at e
    obtain ⟨_, _, _, rfl⟩ := e; rfl
  case lenM x =>
    simp only [evOp, Option.map_eq_some_iff, Prod.mk.injEq] at e
    obtain ⟨_, _, _, rfl⟩ := e; rfl
  case lookup => exact (map_pair e).1
  case entry x => exact (map_pair e).1
  case cmpB x y =>
    simp only [evOp] at e
    split at e
    · injection e with e; injection e with e1 e2; exact e2.symm
    · cases e
  case idxB x y =>
    simp only [evOp] at e
    split at e
    · injection e with e; injection e with e1 e2; exact e2.symm
    · cases e

def EA.rd : EA → List Nat
  | .op o => o.rd
  | .call _ args => rdL args
  | .callv fv args => fv.rd ++ rdL args
  | .nextM x => x.rd
  | .bad => []

def EA.kind : EA → Nat
  | .op o => o.kind
  | _ => 2

def gRd : Option (Nat × Bool) → List Nat
  | none => []
  | some (s, _) => [s]

def EG.rd (g : EG) : List Nat := gRd g.guard ++ g.act.rd

theorem wantE_congr {t t' : Nat → V} {g : Option (Nat × Bool)} (h : Agree t t' (gRd g)) : wantE t g = wantE t' g := by
  cases g with
  | none => rfl
  | some p =>
    obtain ⟨s, q⟩ := p
    have : t s = t' s := h s (by simp [gRd])
    simp only [wantE, this]

theorem evG_congr {t t' : Nat → V} {g : EG} (a : Agree t t' g.rd) (h : List Ob) : evG g t h = evG g t' h := by
  obtain ⟨a1, a2⟩ := agree_append.1 a
  unfold evG
  rw [wantE_congr a1]
  split
  · split
    · rename_i o ho
      rw [ho] at a2
      rw [evOp_congr a2]
    · rfl
  · rfl
  · rfl

theorem evG_deaf {g : EG} (k : g.act.kind = 0) {t : Nat → V} {h : List Ob} {v : V} (e : evG g t h = some v) (h2 : List Ob) : evG g t h2 = some v := by
  unfold evG at e ⊢
  split at e
  · split at e
    · rename_i o ho
      rw [ho] at k
      simp only [Option.map_eq_some_iff] at e
      obtain ⟨⟨u, h1⟩, e1, e2⟩ := e
      try simp only [ho]
      rw [(evOp_deaf k e1).2 h2]
      exact congrArg some e2
    · cases e
  · exact e
  · cases e

theorem wpA_mono {P : Program} {x : EA} {t t' : Nat → V} {h : List Ob} {k k' : V → List Ob → Prop} (a : Agree t t' x.rd) (w : wpA P x t h k) (hk : ∀ v h', k v h' → k' v h') : wpA P x t' h k' := by
  cases x with
  | op o =>
    simp only [wpA] at w ⊢
    rw [← evOp_congr (o := o) a]
    unfold ifSome at w ⊢
    split at w
    · exact hk _ _ w
    · exact w.elim
  | call f args =>
    simp only [wpA] at w ⊢
    rw [← rdL_congr a]
    exact w.mono hk
  | callv fv args =>
    obtain ⟨a1, a2⟩ := agree_append.1 a
    simp only [wpA] at w ⊢
    rw [← rdL_congr a2, ← EO.get_congr a1]
    split at w
    · exact ⟨w.1, w.2.mono hk⟩
    · exact w.elim
  | nextM y =>
    simp only [wpA] at w ⊢
    rw [← EO.get_congr (x := y) a]
    split at w
    · exact fun p hp => hk _ _ (w p hp)
    · exact w.elim
  | bad => exact w.elim

/-- An operation is done. -/
def step (P : Program) (g : EG) (t : Nat → V) (h : List Ob) (K : (Nat → V) → List Ob → Prop) : Prop := match wantE t g.guard with
  | some true => wpA P g.act t h fun v h' => K (putT t g.dst v) h'
  | some false => K (putT t g.dst (.tup [])) h
  | none => False

/-- One that only looks. -/
theorem step_look {P : Program} {g : EG} (k : g.act.kind < 2) {t : Nat → V} {h : List Ob} {K : (Nat → V) → List Ob → Prop} : step P g t h K ↔ ∃ v, evG g t h = some v ∧ K (putT t g.dst v) h := by
  unfold step evG
  cases hw : wantE t g.guard with
  | none => simp
  | some b =>
    cases b with
    | false => simp
    | true =>
      simp only
      cases ha : g.act with
      | op o =>
        rw [ha] at k
        simp only [wpA, ifSome]
        cases he : evOp o t h with
        | none => simp
        | some p =>
          obtain ⟨v, h'⟩ := p
          have hh : h' = h := by
            have : o.kind < 2 := k
            rcases Nat.lt_or_ge o.kind 1 with q | q
            · exact (evOp_deaf (by omega) he).1
            · exact evOp_look (by omega) he
          subst hh
          simp
      | call f args => rw [ha] at k; simp [EA.kind] at k
      | callv f args => rw [ha] at k; simp [EA.kind] at k
      | nextM y => rw [ha] at k; simp [EA.kind] at k
      | bad => rw [ha] at k; simp [EA.kind] at k

/-- What the one writes the other neither reads nor writes, and the other way round. -/
def apart (a b : EG) : Bool := match a.dst, b.dst with
  | none, none => true
  | some d, none => !b.rd.contains d
  | none, some e => !a.rd.contains e
  | some d, some e => !b.rd.contains d && !a.rd.contains e && d != e

theorem agree_put {t : Nat → V} {d : Option Nat} {l : List Nat} (h : ∀ s, d = some s → s ∉ l) (v : V) : Agree (putT t d v) t l := by
  intro s hs
  cases d with
  | none => rfl
  | some d =>
    have : s ≠ d := fun e => h d rfl (e ▸ hs)
    simp [putT, upd, this]

theorem apart_left {a b : EG} (h : apart a b = true) : ∀ s, a.dst = some s → s ∉ b.rd := by
  intro s hs
  unfold apart at h
  rw [hs] at h
  cases hb : b.dst <;> rw [hb] at h <;> simp at h <;> first | exact h | exact h.1.1

theorem apart_symm {a b : EG} (h : apart a b = true) : apart b a = true := by
  unfold apart at h ⊢
  cases ha : a.dst <;> cases hb : b.dst <;> rw [ha, hb] at h <;> simp_all
  exact fun e => h.2 e.symm

theorem put_comm {a b : EG} (h : apart a b = true) (t : Nat → V) (u v : V) : putT (putT t a.dst u) b.dst v = putT (putT t b.dst v) a.dst u := by
  unfold apart at h
  cases ha : a.dst with
  | none => rfl
  | some d => cases hb : b.dst with
    | none => rfl
    | some e =>
      rw [ha, hb] at h
      simp at h
      funext j
      simp only [putT, upd]
      by_cases h1 : j = d
      · by_cases h2 : j = e
        · exact absurd (h1.symm.trans h2) h.2
        · simp [h1, h2]; intro q; exact absurd q h.2
      · simp [h1]

end Go.Proofs.Ytdcdmpgigmhhpaa.E
